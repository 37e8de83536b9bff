/- The fixed run of layer 4. -/
import Derived.Test.YtllcklddfcclfaaScopeFSI
import Derived.Test.YtllcklddfcclfaaLawFrame
namespace Go.Proofs.Ytllcklddfcclfaa
open Go.RowKit
set_option linter.unusedVariables false
set_option linter.unusedSimpArgs false

theorem fits_small {n b : Nat} (hn : n ≤ 1048576) (hb : b ≤ 4096) (h0 : 0 < b) : Fits n b := by
  refine fits_of ?_ h0
  have : n * b ≤ 1048576 * 4096 := Nat.mul_le_mul hn hb
  omega

set_option maxRecDepth 100000 in
set_option maxHeartbeats 1000000 in
theorem wakes_any (w : World) : Calls Try.prog 8 #[] w fun e w' => e = .returned (.bool true) ∧ Below w.heap.size w w' := by
  go_enter Try.func8, Try.ntmps8
  go_wp2_with fail
  refine (scopeNewSI w).mono ?_
  rintro e w1 ⟨b, mb, F, rfl, h1, k1, n1⟩
  have H1 := Lib.hid h1
  have N1 := Lib.hid n1
  have B1 := Lib.hid (below_step (Below.refl _ w) (Nat.le_refl _) k1 (fun _ h => h.elim))
  clear h1 n1 k1
  go_wp2_with fail
  refine (scopeBindSI (fr := []) H1.out [120] 1 (fits_small (by simp) (by omega) (by omega))).mono ?_
  rintro e w2 (⟨hk, _⟩ | ⟨_, rfl, F2, kv2, h2, k2, n2⟩)
  · simp [Fr.keys] at hk
  have H2 := Lib.hid h2
  have N2 := Lib.hid (show ∀ b, F2 b → w.heap.size ≤ b from fun b hb => (n2 b hb).elim (N1.out b) (fun h => Nat.le_trans B1.out.size h))
  have B2 := Lib.hid (below_step B1.out (Nat.le_refl _) k2 N1.out)
  clear h2 n2 k2
  go_wp2_with fail
  refine (scopeOpenSI H2.out (fits_small (by simp) (by omega) (by omega))).mono ?_
  rintro e w3 ⟨⟨v, rfl⟩, F3, h3, k3, n3⟩
  have H3 := Lib.hid h3
  have N3 := Lib.hid (show ∀ b, F3 b → w.heap.size ≤ b from fun b hb => (n3 b hb).elim (N2.out b) (fun h => Nat.le_trans B2.out.size h))
  have B3 := Lib.hid (below_step B2.out (Nat.le_refl _) k3 N2.out)
  clear h3 n3 k3
  go_wp2_with fail
  refine (scopeBindSI (f := ⟨w2.heap.size, .slice none 0 0, []⟩) H3.out [120] 2 (fits_small (by simp) (by omega) (by omega))).mono ?_
  rintro e w4 (⟨hk, _⟩ | ⟨_, rfl, F4, kv4, h4, k4, n4⟩)
  · simp [Fr.keys] at hk
  have H4 := Lib.hid h4
  have N4 := Lib.hid (show ∀ b, F4 b → w.heap.size ≤ b from fun b hb => (n4 b hb).elim (N3.out b) (fun h => Nat.le_trans B3.out.size h))
  have B4 := Lib.hid (below_step B3.out (Nat.le_refl _) k4 N3.out)
  clear h4 n4 k4
  go_wp2_with fail
  refine (scopeBindSI (f := ⟨w2.heap.size, kv4, [] ++ [([120], 2)]⟩) H4.out [120] 3 (fits_small (by simp) (by omega) (by omega))).mono ?_
  rintro e w5 (⟨_, rfl, k5⟩ | ⟨hk, _⟩)
  case inr => simp [Fr.keys] at hk
  have H5 := Lib.hid (H4.out.frame k5 (fun _ _ => id))
  have B5 := Lib.hid (below_step B4.out (Nat.le_refl _) k5 (fun _ h => h.elim))
  clear k5
  go_wp2_with fail
  refine (scopeFindSI H5.out (by simp) [120]).mono ?_
  rintro e w6 ⟨(⟨rfl, hno⟩ | ⟨i, hi, x, rfl, ⟨j, hj⟩, hlast⟩), hb6⟩
  · exact absurd (hno ⟨w2.heap.size, kv4, [] ++ [([120], 2)]⟩ (by simp)) (by simp [Fr.keys])
  have hi1 : i = 1 := by
    match i, hi with
    | 0, _ => exact absurd (hlast 1 (by simp) (by omega)) (by simp [Fr.keys])
    | 1, _ => rfl
  subst hi1
  have hx2 : x = 2 := by
    have := List.mem_of_getElem? hj
    simpa using this
  subst hx2
  have H6 := Lib.hid (H5.out.frame (Kept.of_below hb6) (fun b hb h => by have := H5.out.lt hb; omega))
  have B6 := Lib.hid (B5.out.trans (hb6.mono B5.out.size))
  unfold encI
  clear hj hlast hb6
  go_wp2_with fail
  refine (scopeLevelSI H6.out (by simp)).mono ?_
  rintro e w7 ⟨rfl, rfl⟩
  simp only [List.length_append, List.length_cons, List.length_nil]
  go_wp2
  go_ret
  exact ⟨rfl, B6.out⟩

end Go.Proofs.Ytllcklddfcclfaa
