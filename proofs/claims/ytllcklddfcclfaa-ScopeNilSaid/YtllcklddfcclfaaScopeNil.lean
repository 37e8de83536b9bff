/- The walk of ScopeNil: wakes and the calls on a nil pointer by their contracts. -/
import Derived.Test.YtllcklddfcclfaaWakes4
import Derived.Test.YtllcklddfcclfaaLawFrame
namespace Go.Proofs.Ytllcklddfcclfaa
open Go.ChangeShapes Go.WideShapes Go.ChangeAt Go.RowKit
set_option linter.unusedVariables false

theorem nilOpen (w : World) : Calls Try.prog 35 #[.pointer none] w fun e w' => (∃ v, e = .returned v) ∧ w = w' := by
  go_enter Try.func35, Try.ntmps35
  go_wp2
  go_end0
  exact ⟨⟨_, rfl⟩, rfl⟩

theorem nilClose (w : World) : Calls Try.prog 36 #[.pointer none] w fun e w' => e = .returned (.int .i64 1) ∧ w = w' := by
  go_enter Try.func36, Try.ntmps36
  go_wp2
  go_ret
  exact ⟨rfl, rfl⟩

theorem nilBind (w : World) (k x : Value) : Calls Try.prog 37 #[.pointer none, k, x] w fun e w' => e = .returned (.int .i64 1) ∧ w = w' := by
  go_enter Try.func37, Try.ntmps37
  go_wp2
  go_ret
  exact ⟨rfl, rfl⟩

theorem nilLevel (w : World) : Calls Try.prog 39 #[.pointer none] w fun e w' => e = .returned (.int .i64 0) ∧ w = w' := by
  go_enter Try.func39, Try.ntmps39
  go_wp2
  go_ret
  exact ⟨rfl, rfl⟩

theorem nilHere (w : World) : Calls Try.prog 40 #[.pointer none] w fun e w' => e = .returned (.slice none 0 0) ∧ w = w' := by
  go_enter Try.func40, Try.ntmps40
  go_wp2
  go_ret
  exact ⟨rfl, rfl⟩

set_option maxRecDepth 100000 in
set_option maxHeartbeats 1000000 in
theorem nilFind (w : World) (k : Int) : Calls Try.prog 38 #[.pointer none, .int .i64 k] w fun e w' => e = .returned (.tuple #[.string ⟨#[]⟩, .int .i64 0, .int .i64 1]) ∧ Below w.heap.size w w' := by
  go_enter Try.func38, Try.ntmps38
  go_wp2
  have hB : Below w.heap.size w ((((w.alloc (.cells #[.int .i64 k] 3)).alloc (.cells #[.string ⟨#[]⟩] 9)).alloc (.cells #[.int .i64 0] 3)).alloc (.cells #[.int .i64 1] 26)) := (((((Below.refl _ w).alloc (Nat.le_refl _) _).alloc (by simp) _).alloc (by simp; omega) _).alloc (by simp; omega) _)
  have g1 : ((((w.alloc (.cells #[.int .i64 k] 3)).alloc (.cells #[.string ⟨#[]⟩] 9)).alloc (.cells #[.int .i64 0] 3)).alloc (.cells #[.int .i64 1] 26)).heap[w.heap.size + 1]? = some (.cells #[.string ⟨#[]⟩] 9 (0, 0)) := by
    have := heap_alloc (heap_alloc (heap_alloc_new (w.alloc (.cells #[.int .i64 k] 3)) (.cells #[.string ⟨#[]⟩] 9)) (.cells #[.int .i64 0] 3)) (.cells #[.int .i64 1] 26)
    simpa using this
  have g2 : ((((w.alloc (.cells #[.int .i64 k] 3)).alloc (.cells #[.string ⟨#[]⟩] 9)).alloc (.cells #[.int .i64 0] 3)).alloc (.cells #[.int .i64 1] 26)).heap[w.heap.size + 1 + 1]? = some (.cells #[.int .i64 0] 3 (0, 0)) := by
    have := heap_alloc (heap_alloc_new ((w.alloc (.cells #[.int .i64 k] 3)).alloc (.cells #[.string ⟨#[]⟩] 9)) (.cells #[.int .i64 0] 3)) (.cells #[.int .i64 1] 26)
    simpa using this
  have g3 : ((((w.alloc (.cells #[.int .i64 k] 3)).alloc (.cells #[.string ⟨#[]⟩] 9)).alloc (.cells #[.int .i64 0] 3)).alloc (.cells #[.int .i64 1] 26)).heap[w.heap.size + 1 + 1 + 1]? = some (.cells #[.int .i64 1] 26 (0, 0)) := by
    have := heap_alloc_new (((w.alloc (.cells #[.int .i64 k] 3)).alloc (.cells #[.string ⟨#[]⟩] 9)).alloc (.cells #[.int .i64 0] 3)) (.cells #[.int .i64 1] 26)
    simpa using this
  have c1 := cell_of (i := 0) g1 rfl
  have c2 := cell_of (i := 0) g2 rfl
  have c3 := cell_of (i := 0) g3 rfl
  clear g1 g2 g3
  generalize ((((w.alloc (.cells #[.int .i64 k] 3)).alloc (.cells #[.string ⟨#[]⟩] 9)).alloc (.cells #[.int .i64 0] 3)).alloc (.cells #[.int .i64 1] 26)) = W at hB c1 c2 c3 ⊢
  refine bodyPost_ret (v := .tuple #[.string ⟨#[]⟩, .int .i64 0, .int .i64 1]) ?_ rfl ⟨rfl, hB⟩
  simp at c1 c2 c3
  simp [results, Try.results38, go_sem, c1, c2, c3]

set_option maxRecDepth 100000 in
set_option maxHeartbeats 1000000 in
theorem scopeNil_walk (w : World) : Calls Try.prog 7 #[] w fun e w' => e = .returned (.bool true) ∧ Below w.heap.size w w' := by
  go_enter Try.func7, Try.ntmps7
  go_wp2_with fail
  refine (wakes_any w).mono ?_
  rintro e w1 ⟨rfl, hb⟩
  go_wp2_with fail
  refine (nilOpen w1).mono ?_
  rintro e w2 ⟨⟨v, rfl⟩, rfl⟩
  go_wp2_with fail
  refine (nilClose w1).mono ?_
  rintro e w2 ⟨rfl, rfl⟩
  go_wp2_with fail
  refine (nilBind w1 _ _).mono ?_
  rintro e w2 ⟨rfl, rfl⟩
  go_wp2_with fail
  refine (nilFind w1 1).mono ?_
  rintro e w2 ⟨rfl, hb2⟩
  go_wp2_with fail
  refine (nilLevel w2).mono ?_
  rintro e w3 ⟨rfl, rfl⟩
  go_wp2_with fail
  refine (nilHere w2).mono ?_
  rintro e w3 ⟨rfl, rfl⟩
  go_wp2
  go_ret
  exact ⟨rfl, hb.trans (hb2.mono hb.size)⟩

theorem scopeNil_calls : LawCalls Try.prog 7 Try.f7 := by
  intro H enc W args ds ps hval hA hsz
  rw [Try.params7] at hA
  obtain ⟨hargs, rfl, rfl⟩ := trodAll_nil hA
  obtain rfl : args = #[] := by cases args; simp_all
  exact scopeNil_walk W

end Go.Proofs.Ytllcklddfcclfaa
