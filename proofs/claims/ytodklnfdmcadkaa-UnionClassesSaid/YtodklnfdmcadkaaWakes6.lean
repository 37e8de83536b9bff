/- The fixed run of layer 6. -/
import Derived.Test.YtodklnfdmcadkaaUniCI
import Derived.Test.YtodklnfdmcadkaaUniCS
import Derived.Test.YtodklnfdmcadkaaLawFrame
namespace Go.Proofs.Ytodklnfdmcadkaa
open Go.RowKit
set_option linter.unusedVariables false
set_option linter.unusedSimpArgs false

set_option maxRecDepth 100000 in
set_option maxHeartbeats 1000000 in
theorem wakes_any (w : World) : Calls Try.prog 8 #[] w fun e w' => e = .returned (.bool true) ∧ Below w.heap.size w w' := by
  go_enter Try.func8, Try.ntmps8
  go_wp2_with fail
  refine (uniNewS w).mono ?_
  rintro e w1 ⟨rfl, u1, k1⟩
  obtain ⟨a, ha⟩ : ∃ a, a = w.heap.size := ⟨_, rfl⟩
  have U1 := Lib.hid u1
  have K1 := Lib.hid (show Kept (fun b => w.heap.size ≤ b) w w1 from k1.mono (fun _ _ h => h.elim))
  have HA := Lib.hid ha
  rw [← ha] at U1 ⊢
  clear u1 k1 ha
  go_wp2_with fail
  refine (uniAddS U1.out [112] (fits_of (by decide) (by decide))).mono ?_
  rintro e w2 ⟨rfl, F2, u2, k2, n2⟩
  have U2 := Lib.hid u2
  have K2 := Lib.hid (K1.out.trans' k2 (fun i _ h => by have := HA.out; omega))
  have N2 := Lib.hid (show ∀ b, F2 b → w.heap.size ≤ b from fun b hb => by
    have h1 := HA.out
    have h2 := K1.out.size
    rcases n2 b hb with h | h <;> omega)
  clear u2 k2 n2
  go_wp2_with fail
  refine (uniAddS U2.out [113] (fits_of (by decide) (by decide))).mono ?_
  rintro e w3 ⟨rfl, F3, u3, k3, n3⟩
  have U3 := Lib.hid u3
  have K3 := Lib.hid (K2.out.trans' k3 (fun i _ h => N2.out i h))
  have N3 := Lib.hid (show ∀ b, F3 b → w.heap.size ≤ b from fun b hb => by
    have h2 := K2.out.size
    rcases n3 b hb with h | h
    · exact N2.out b h
    · omega)
  clear u3 k3 n3
  go_wp2_with fail
  refine (uniJoinS U3.out 1 0).mono ?_
  rintro e w4 (⟨h, _⟩ | ⟨i, j, hi, hj, _, _, rfl, u4, k4⟩)
  · simp at h
  obtain rfl : i = 1 := by omega
  obtain rfl : j = 0 := by omega
  have U4 := Lib.hid u4
  have K4 := Lib.hid (K3.out.trans' k4 (fun i _ h => N3.out i h))
  clear u4 k4 hi hj
  go_wp2_with fail
  refine (uniGetS U4.out 1).mono ?_
  rintro e w5 (⟨h, _⟩ | ⟨i, x, hi, _, hx, rfl, u5, k5⟩)
  · simp at h
  obtain rfl : i = 1 := by omega
  obtain rfl : x = [112] := by
    have h : some [112] = some x := hx
    simpa using h.symm
  have U5 := Lib.hid u5
  have K5 := Lib.hid (K4.out.trans' k5 (fun i _ h => N3.out i h))
  clear u5 k5 hi hx
  unfold encS
  go_wp2_with fail
  refine ((uniCountS U5.out).mono (fun e w' h => show e = .returned (.int .i64 1) ∧ w5 = w' from h)).mono ?_
  rintro e w6 ⟨rfl, rfl⟩
  go_wp2
  go_ret
  exact ⟨rfl, below_step (Below.refl _ w) (Nat.le_refl _) K5.out (fun _ h => h)⟩

end Go.Proofs.Ytodklnfdmcadkaa
