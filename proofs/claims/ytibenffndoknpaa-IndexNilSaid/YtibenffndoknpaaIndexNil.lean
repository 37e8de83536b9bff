/- The walk of IndexNil: wakes by its contract, the calls on a nil pointer in place. -/
import Derived.Test.YtibenffndoknpaaWakes3
import Derived.Test.YtibenffndoknpaaLawFrame
namespace Go.Proofs.Ytibenffndoknpaa
open Go.ChangeShapes Go.WideShapes Go.ChangeAt Go.RowKit

theorem indexNil_walk (w : World) : Calls Try.prog 7 #[] w fun e w' => e = .returned (.bool true) ∧ Below w.heap.size w w' := by
  go_enter Try.func7, Try.ntmps7
  go_wp2_with fail
  refine (wakes_any w).mono ?_
  rintro e w1 ⟨rfl, hb⟩
  go_wp2
  go_ret
  exact ⟨rfl, hb⟩

theorem indexNil_calls : LawCalls Try.prog 7 Try.f7 := by
  intro H enc W args ds ps hval hA hsz
  rw [Try.params7] at hA
  obtain ⟨hargs, rfl, rfl⟩ := trodAll_nil hA
  obtain rfl : args = #[] := by cases args; simp_all
  exact indexNil_walk W

end Go.Proofs.Ytibenffndoknpaa
