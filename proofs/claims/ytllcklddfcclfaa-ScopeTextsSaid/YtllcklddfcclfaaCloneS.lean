/- slices.Clone at one type: new memory with the same things; nil of nil. -/
import Derived.Test.YtllcklddfcclfaaIdxIs
import Derived.Test.YtllcklddfcclfaaFacts4
import Derived.Maps.OwnSet
import Derived.WalkSpells
import Derived.WalkLawsBesides
namespace Go.Proofs.Ytllcklddfcclfaa
open Go.RowKit
set_option linter.unusedVariables false
set_option linter.unusedSimpArgs false

theorem cloneS (v : Value) (n : Nat) (xs : List Value) (w : World) (hx : Rd w 1 v n xs) (h1 : ∀ u ∈ xs, u.oneCell' = true) (hf : Fits n 16) :
    Calls Try.prog 50 #[v] w fun e w' => ∃ v', e = .returned v' ∧ Fresh w w' 9 1 v' n xs := by
  have hnil := fun w a n c => Lib.run_eql_slice_nil (P := Try.prog) w 55 9 a n c 0 0 Try.underlying55
  have hf' : Fits (0 + n) 16 := by rw [Nat.zero_add]; exact hf
  obtain ⟨hl, a, c, rfl, k1, k2, k3, k4⟩ := id hx
  cases a with
  | none =>
    obtain ⟨rfl, rfl⟩ := k3 rfl
    have : xs = [] := List.eq_nil_of_length_eq_zero (by simpa using hl)
    subst this
    clear hx h1 hf k1 k2 k3 k4 hl hf'
    go_enter Try.func50, Try.ntmps50
    go_wp2
    go_ret
    exact ⟨_, rfl, Own.nil _ _ _, Kept.refl _ _, by simp [Value.ownBlock]⟩
  | some ad =>
    clear hl k1 k2 k3 k4 hf
    go_enter Try.func50, Try.ntmps50
    go_wp2_with (at_builtin; refine wpList_append slStr (v := .slice (some ⟨w.heap.size, 0, none⟩) 0 0) (vx := .slice (some ad) n c) (news := xs) (m := n) rfl _ _ rfl rfl rfl (Own.fresh (n := 0) (by rfl) (by decide)) (hx.alloc _) h1 hf' ?_; intro v2 w2 hown2 hk2 hb2 _)
    go_ret
    rw [Nat.zero_add] at hown2
    refine ⟨_, rfl, hown2, ?_, ?_⟩
    · refine ((Kept.refl _ w).alloc _).trans' hk2 (fun i hi h => ?_)
      have h' : w.heap.size = i := by simpa [Value.ownBlock] using h
      omega
    · intro b hb
      rcases hb2 b hb with h | h
      · have h' : w.heap.size = b := by simpa [Value.ownBlock] using h
        omega
      · simp at h; omega

end Go.Proofs.Ytllcklddfcclfaa
