/- wakes of layer 3: the fixed run answers true; nothing that was there is turned. -/
import Derived.Test.YtibenffndoknpaaIdxS
namespace Go.Proofs.Ytibenffndoknpaa
open Go.RowKit
set_option linter.unusedVariables false
set_option linter.unusedSimpArgs false

theorem fits_small {n b : Nat} (hn : n ≤ 1048576) (hb : b ≤ 4096) (h0 : 0 < b) : Fits n b := by
  refine fits_of ?_ h0
  have : n * b ≤ 1048576 * 4096 := Nat.mul_le_mul hn hb
  omega

set_option maxHeartbeats 400000 in
theorem wakes_any (w : World) : Calls Try.prog 8 #[] w fun e w' => e = .returned (.bool true) ∧ Below w.heap.size w w' := by
  go_enter Try.func8, Try.ntmps8
  go_wp2_with fail
  refine (idxNewS w).mono ?_
  rintro e w1 ⟨p, F0, rfl, hI0, hk0, hF0, b, rfl⟩
  have HI0 := Lib.hid hI0
  clear hI0
  go_wp2_with fail
  refine (idxNumberS HI0.out [98] (fits_small (by simp) (by decide) (by decide))).mono ?_
  rintro e w2 ⟨rfl, F1, hI1, hk1, hF1⟩
  have HI1 := Lib.hid hI1
  clear hI1
  go_wp2_with fail
  refine (idxNumberS HI1.out [97] (fits_small (by simp [putK]) (by decide) (by decide))).mono ?_
  rintro e w3 ⟨rfl, F2, hI2, hk2, hF2⟩
  have HI2 := Lib.hid hI2
  clear hI2
  go_wp2_with fail
  refine (idxFindS HI2.out [98]).mono ?_
  rintro e w4 ⟨rfl, rfl⟩
  simp only [putK, List.idxOf, List.findIdx] at *
  go_wp2_with fail
  refine (idxLenS HI2.out).mono ?_
  rintro e w4 ⟨rfl, rfl⟩
  go_wp2_with fail
  go_ret
  have b1 := below_step (Below.refl w.heap.size w) (Nat.le_refl _) hk0 (fun _ h => h.elim)
  have b2 := below_step b1 (Nat.le_refl _) hk1 hF0
  have g1 : ∀ b, F1 b → w.heap.size ≤ b := fun b h => (hF1 b h).elim (hF0 b) (fun h => Nat.le_trans b1.size h)
  exact ⟨rfl, below_step b2 (Nat.le_refl _) hk2 g1⟩

end Go.Proofs.Ytibenffndoknpaa
