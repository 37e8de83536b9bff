/- What every law's proof ends with: a call that answers true and turns nothing that was there meets the law's specification. -/
import Derived.Test.YtllcklddfcclfaaBase
import Derived.ProofKit
import Derived.SizedLaws
import Derived.OpenShut
namespace Go.Proofs.Ytllcklddfcclfaa
open Go.ChangeShapes Go.WideShapes Go.ChangeAt Go.RowKit
set_option linter.unusedVariables false
set_option linter.unusedSimpArgs false

theorem trodAll_below {H : Type} {enc : TypeId × Value → H} {P : Program} (hl : laidOutB P = true) {W W' : World} (hb : Below W.heap.size W W') : ∀ (ts : List TypeId) (vs : List Value) (ds : List (DataW H)) (ps : List MemPlace),
    (∀ t ∈ ts, P.readableRec t = true ∧ t < P.types.size) → DataW.TrodAll enc P W 0 (fun _ => true) true ts vs ds ps →
    DataW.TrodAll enc P W' 0 (fun b => decide (b < W.heap.size)) true ts vs ds ps
  | [], [], [], _, _, h => h
  | t :: ts, v :: vs, d :: ds, _, hr, ⟨p, q, h, hs, e⟩ => by
    subst e
    have hlt := DataW.TrodAll.lt (enc := enc) (ts := t :: ts) (vs := v :: vs) (ds := d :: ds) ⟨p, q, h, hs, rfl⟩
    refine ⟨p, q, ?_, trodAll_below hl hb ts vs ds q (fun t' ht => hr t' (by simp [ht])) hs, rfl⟩
    exact Below.trod hl (hr t (by simp)).1 (hr t (by simp)).2 h hb (fun x hx => hlt x (by simp [hx]))
  | [], _ :: _, _, _, _, h | [], [], _ :: _, _, _, h | _ :: _, [], _, _, _, h | _ :: _, _ :: _, [], _, _, h => by simp [DataW.TrodAll] at h

theorem law_post {H : Type} {enc : TypeId × Value → H} {P : Program} (hl : laidOutB P = true) {f : Func} {s : ChangeSpec} {tb : TypeId} (hr : f.resultTypes = #[tb]) (htb : P.underlying tb = some .bool)
    (hread : ∀ t ∈ f.params.toList, P.readableRec t = true ∧ t < P.types.size) (hv : s.vars = []) {W W' : World} {args : Array Value} {ds gs : List (DataW H)} {before : List MemPlace}
    (hW : DataW.Whole enc P f.params.toList s.vars false W args.toList ds gs before) (hb : Below W.heap.size W W') (hfn : s.fn H (ds ++ gs) = { results := [.lit (.bool true)], args := ds }) :
    s.post enc P f false true false false W args (.bool true) W' := by
  have hW' := hW
  obtain ⟨p, q, hA, hV, rfl, hfz, hnd⟩ := hW
  have hA' := trodAll_below hl hb _ _ _ _ hread hA
  refine ⟨ds, gs, p ++ q, [], p, [], hW', ?_, ?_, ?_, hb.frame _, fun h => by cases h⟩
  · rw [hfn, hr]
    exact trodAll_mk1 (shut_bool htb true)
  · rw [hfn]
    exact hA'
  · rw [hfn, hv]
    exact rfl

/-- What a law owes: the call itself. -/
def LawCalls (P : Program) (F : FuncId) (fn : Func) : Prop :=
  ∀ (H : Type) (enc : TypeId × Value → H) (W : World) (args : Array Value) (ds : List (DataW H)) (ps : List MemPlace),
    (∀ (j : Nat) t v, fn.params[j]? = some t → args[j]? = some v → ∃ base, Value.okWide P W .any base t v) →
    DataW.TrodAll enc P W 0 (fun _ => true) true fn.params.toList args.toList ds ps → (DataW.weightsEach P fn.params.toList ds).all (· ≤ reachBytes) = true →
    Calls P F args W fun e W' => e = .returned (.bool true) ∧ Below W.heap.size W W'

end Go.Proofs.Ytllcklddfcclfaa
