/- Proved: StackPairsUptoSaid: where what comes in is of bulk at most the given number, the law answers true and its arguments read as they did. -/
import Derived.Test.YthkkpnlgjkdneaaStackPairs
import Derived.Test.YthkkpnlgjkdneaaLawFrame
import Derived.JoinedCond
namespace Go.Proofs.Ythkkpnlgjkdneaa
open Go.ChangeShapes Go.WideShapes Go.ChangeAt Go.RowKit
set_option linter.unusedVariables false

namespace stackPairs
theorem own : ownKnob Try.prog.godebug = none := by kernel_rfl
theorem laid : laidOutB Try.prog = true := by kernel_rfl
theorem reads : ((Try.f7.params.toList).all fun t => Try.prog.readableRec t && decide (t < Try.prog.types.size)) = true := by kernel_rfl

theorem fn_eq {H : Type} (ds : List (DataW H)) (h : ds.length = 2) : Rows.stackPairsSpec.fn H (ds ++ []) = { results := [.lit (.bool true)], args := ds } := by
  match ds, h with
  | [_, _], _ => rfl

theorem contract (H : Type) (enc : TypeId × Value → H) (W : World) (base : Nat) (args : Array Value) (ds gs : List (DataW H)) (before : List MemPlace)
    (hval0 : ∀ (j : Nat) t v, Try.f7.params[j]? = some t → args[j]? = some v → Value.okWide Try.prog W .any base t v)
    (hW : DataW.Whole enc Try.prog Try.f7.params.toList Rows.stackPairsSpec.vars false W args.toList ds gs before) (hk : Rows.uptoSmall H (ds ++ gs) = true) :
    Calls Try.prog 7 args W fun e W' => ∃ v, e = .returned v ∧ Rows.stackPairsSpec.post enc Try.prog Try.f7 false true false false W args v W' := by
  have hW2 := hW
  obtain ⟨p, q, hA0, hV, rfl, hfz, hnd⟩ := hW
  obtain ⟨rfl, rfl⟩ := trodVars_none hV
  rw [List.append_nil] at hk
  have hlen : ds.length = 2 := by
    have h0 : DataW.TrodAll enc Try.prog W 0 (fun _ => true) true Try.f7.params.toList args.toList ds p := hA0
    rw [Try.params7] at h0
    obtain ⟨_, _, _, _, _, _, _, h, _⟩ := trodAll_two h0; rw [h]; rfl
  refine (stackPairs_calls H enc W args ds p (fun j t v h1 h2 => ⟨base, hval0 j t v h1 h2⟩) hA0 hk).mono fun e W' ⟨he, hb⟩ => ?_
  subst he
  refine ⟨_, rfl, law_post laid (tb := 4) (by kernel_rfl) Try.underlying4 ?_ rfl hW2 hb (fn_eq ds hlen)⟩
  intro t ht
  have := List.all_eq_true.1 reads t ht
  simpa using this

set_option maxRecDepth 100000 in
theorem lifted (os : Os) (started : os.Started) (H : Type) (enc : TypeId × Value → H) (F : Stop.Interp) :
    ReturnsInHanded {} Try.checked os 7 .any ((Rows.OpenSpec.upto Rows.stackPairsSpec).pre6 enc Try.prog Try.f7 Rows.stackPairsUptoRow.domain false) (((Rows.OpenSpec.upto Rows.stackPairsSpec).at F).post enc Try.prog Try.f7 false true false false) := by
  refine returnsInHanded_of_cond (C := Try.checked) (s := Rows.OpenSpec.upto Rows.stackPairsSpec) (k := Rows.uptoSmall) rfl own started (by kernel_rfl) Try.func7
    (OpenSpec.witness (enc := enc) (C := Try.checked) (s := Rows.OpenSpec.upto Rows.stackPairsSpec) (k := Rows.uptoSmall) rfl false ⟨#[], #[.int .i64 0, .slice none 0 0], []⟩ 8 (by kernel_rfl) (by kernel_rfl) (by kernel_rfl)
      (x := ([.lit (.int .i64 0), .nil], [], [])) (by kernel_rfl) rfl (by kernel_rfl)) ?_
  intro W base args ds gs before hval hW _ hk _
  exact contract H enc W base args ds gs before hval hW hk

theorem holds : Rows.StackPairsUptoSaid :=
  OpenClaim.holds_of_cond 7 Try.f7 rfl rfl rfl rfl rfl rfl rfl ⟨rfl, rfl, rfl, rfl, rfl⟩ rfl rfl rfl rfl rfl (by kernel_rfl) Try.func7 (by kernel_rfl)
    (of_decide_eq_true (by kernel_rfl)) (by unfold Func.isWrapper; rw [if_neg (of_decide_eq_false (by kernel_rfl))]; exact ⟨rfl, rfl⟩)
    (fun os started H enc _ F => lifted os started H enc F)
end stackPairs

theorem stackPairs_holds : Rows.StackPairsUptoSaid := stackPairs.holds
#print axioms stackPairs_holds

end Go.Proofs.Ythkkpnlgjkdneaa
