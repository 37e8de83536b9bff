/- IndexPairs: the walk joined to what comes in. -/
import Derived.Test.YtibenffndoknpaaIndexPairs
namespace Go.Proofs.Ytibenffndoknpaa
open Go.ChangeShapes Go.WideShapes Go.ChangeAt Go.RowKit

theorem indexPairs_calls : ∀ (H : Type) (enc : TypeId × Value → H) (W : World) (args : Array Value) (ds : List (DataW H)) (ps : List MemPlace),
    (∀ (j : Nat) t v, Try.f6.params[j]? = some t → args[j]? = some v → ∃ base, Value.okWide Try.prog W .any base t v) →
    DataW.TrodAll enc Try.prog W 0 (fun _ => true) true Try.f6.params.toList args.toList ds ps → Rows.uptoSmall H ds = true →
    Calls Try.prog 6 args W fun e W' => e = .returned (.bool true) ∧ Below W.heap.size W W' := by
  intro H enc W args ds ps hval hA hsz
  rw [Try.params6] at hA hval
  obtain ⟨v0, d0, rfl, rfl, h0⟩ := trodAll_one hA
  obtain ⟨base, hok⟩ := hval 0 _ v0 rfl rfl
  obtain ⟨fs, hu, hs, hfs⟩ := opFields
  obtain ⟨xs, hx, hin, hlen, _⟩ := open_rows_arg Try.underlying35 hu (by rw [hs]; kernel_rfl) hfs hok h0
  rw [hs] at hx
  refine indexPairs_walk v0 xs W hx (fun r hr => ⟨by rw [(hin r hr).1, hs], (hin r hr).2⟩) ?_
  have h1 : Rows.uptoBulkAll [d0] ≤ 1048576 := of_decide_eq_true hsz
  simp only [Rows.uptoBulkAll] at h1
  omega

end Go.Proofs.Ytibenffndoknpaa
