/- The walk of StackBack, the cut in one case. -/
import Derived.Test.YthkkpnlgjkdneaaWakes1
import Derived.Test.YthkkpnlgjkdneaaArgsI
import Derived.Test.YthkkpnlgjkdneaaRdMore
namespace Go.Proofs.Ythkkpnlgjkdneaa
open Go.RowKit
set_option linter.unusedVariables false
set_option linter.unusedSimpArgs false

set_option maxRecDepth 100000 in
set_option maxHeartbeats 2000000 in
theorem stackBack_in (v0 v1 : Value) (xs ys : List Int) (w : World) (hx : Rd w 1 v0 xs.length (cellsOf encI xs)) (hy : Rd w 1 v1 ys.length (cellsOf encI ys)) {m : Nat} (hm : m ≤ ys.length) (hsum : xs.length + ys.length ≤ 1048576) :
    Calls Try.prog 4 #[v0, v1, .int .i64 m] w fun e w' => e = .returned (.bool true) ∧ Below w.heap.size w w' := by
  obtain ⟨_, a, ca, rfl, ka1, ka2, ka3, _⟩ := id hx
  obtain ⟨_, b, cb, rfl, kb1, kb2, kb3, _⟩ := id hy
  have hhd := fun w => run_slice_head slInt w b (n := ys.length) (c := cb) (k := m) (by omega)
  have htl := fun w => run_slice_tail slInt w b (n := ys.length) (c := cb) (k := m) (by omega) kb1
  have hyh := hy.head (k := m) (by omega)
  have hyt := hy.tailV (k := m) (by omega)
  rw [cellsOf_take sizeI ys (by omega)] at hyh
  rw [cellsOf_drop sizeI ys (by omega)] at hyt
  generalize tailV b ys.length cb m 1 = tv at htl hyt
  have HX := Lib.hid hx
  have HY := Lib.hid hy
  have HYH := Lib.hid hyh
  have HYT := Lib.hid hyt
  have HSUM := Lib.hid hsum
  have hw1 : IntKind.i64.wrap ((xs.length : Int) + (ys.length : Int)) = (xs.length : Int) + (ys.length : Int) := IntWalk.i64_in _ (by omega)
  have hw2 : IntKind.i64.wrap ((ys.length : Int) - ((m : Nat) : Int)) = (ys.length : Int) - ((m : Nat) : Int) := IntWalk.i64_in _ (by omega)
  have hle : (xs.length : Int) + (ys.length : Int) ≤ 1048576 := by omega
  clear hx hy ka3 kb3 hyh hyt hsum ka2 kb2
  go_enter Try.func4, Try.ntmps4
  go_wp2_with fail
  refine (wakes_any w).mono ?_
  rintro e w1 ⟨rfl, hb1⟩
  have B1 := Lib.hid hb1
  clear hb1
  go_wp2_with fail
  refine (stkNewI _ w1).mono ?_
  rintro e w2 (⟨h, _⟩ | ⟨limit, hl, _, rfl, s2, k2⟩)
  · exact absurd (by omega) h
  obtain rfl : limit = xs.length + ys.length := by omega
  have S2 := Lib.hid s2
  have B2 := Lib.hid (below_step B1.out (Nat.le_refl _) k2 (fun _ h => h.elim))
  have N2 := Lib.hid (show ∀ i, i = w1.heap.size → w.heap.size ≤ i from fun i h => by have := B1.out.size; omega)
  clear s2 k2 hl
  generalize w1.heap.size = sb at S2 N2 ⊢
  go_wp2_with fail
  refine (stkPushI S2.out _ xs (HX.out.later B2.out)).mono ?_
  rintro e w3 (⟨h, _⟩ | ⟨_, rfl, F3, s3, k3, n3⟩)
  · exact absurd h (by rw [List.length_nil]; omega)
  rw [List.nil_append] at s3
  have S3 := Lib.hid s3
  have B3 := Lib.hid (below_step B2.out (Nat.le_refl _) k3 (fun i h => N2.out i h))
  have N3 := Lib.hid (show ∀ i, F3 i → w.heap.size ≤ i from fun i h => (n3 i h).elim (N2.out i) (fun h => Nat.le_trans B2.out.size h))
  clear s3 k3 n3
  go_wp2_with fail
  refine (stkPushI S3.out _ ys (HY.out.later B3.out)).mono ?_
  rintro e w4 (⟨h, _⟩ | ⟨_, rfl, F4, s4, k4, n4⟩)
  · exact absurd h (Nat.lt_irrefl _)
  have S4 := Lib.hid s4
  have B4 := Lib.hid (below_step B3.out (Nat.le_refl _) k4 N3.out)
  have N4 := Lib.hid (show ∀ i, F4 i → w.heap.size ≤ i from fun i h => (n4 i h).elim (N3.out i) (fun h => Nat.le_trans B3.out.size h))
  clear s4 k4 n4
  go_wp2_with fail
  refine (stkPushI (S4.out.frame ((Kept.refl (fun _ => False) w4).alloc _) (fun _ _ => id)) _ [1] (Own.rd (Own.fresh (n := 1) (by rfl) (by decide)))).mono ?_
  rintro e w5 (⟨_, rfl, k5⟩ | ⟨h, _⟩)
  case inr => simp at h; omega
  have S5 := Lib.hid (S4.out.frame (((Kept.refl (fun _ => False) w4).alloc _).trans k5) (fun _ _ => id))
  have B5 := Lib.hid (below_step B4.out (Nat.le_refl _) (((Kept.refl (fun _ => False) w4).alloc _).trans k5) (fun _ h => h.elim))
  clear k5
  go_wp2_with fail
  refine (stkLenI S5.out).mono ?_
  rintro e w6 ⟨rfl, rfl⟩
  have hlen : (((xs ++ ys).length : Nat) : Int) = (xs.length : Int) + (ys.length : Int) := by simp
  rw [hlen]
  clear hlen
  go_wp2_with fail
  refine (stkPopI S5.out ys.length).mono ?_
  rintro e w6 (⟨h, _⟩ | ⟨h, _⟩ | ⟨k, l, hk, _, rfl, o6, a6, s6, k6⟩)
  · omega
  · simp at h; omega
  obtain rfl : k = xs.length := by simp at hk; omega
  rw [List.take_left] at s6
  rw [List.drop_left, show (xs ++ ys).length - xs.length = ys.length by simp] at o6
  obtain ⟨la, lc, rfl, _, _, _⟩ := o6.shape
  have S6 := Lib.hid s6
  have O6 := Lib.hid o6
  have B6 := Lib.hid (below_step B5.out (Nat.le_refl _) k6 N4.out)
  clear s6 o6 a6 k6 hk
  go_wp2_with fail
  refine (sameI _ _ ys ys w6 O6.out.rd (HY.out.later B6.out)).mono ?_
  rintro e w7 ⟨rfl, k7⟩
  have S7 := Lib.hid (S6.out.frame k7 (fun _ _ => id))
  have B7 := Lib.hid (below_step B6.out (Nat.le_refl _) k7 (fun _ h => h.elim))
  rw [decide_eq_true (rfl : ys = ys)]
  clear k7
  go_wp2_with fail
  refine (stkLenI S7.out).mono ?_
  rintro e w8 ⟨rfl, rfl⟩
  go_wp2_with fail
  refine (stkPushI S7.out _ ys (HY.out.later B7.out)).mono ?_
  rintro e w8 (⟨h, _⟩ | ⟨_, rfl, F8, s8, k8, n8⟩)
  · exact absurd h (Nat.lt_irrefl _)
  have S8 := Lib.hid s8
  have B8 := Lib.hid (below_step B7.out (Nat.le_refl _) k8 N4.out)
  have N8 := Lib.hid (show ∀ i, F8 i → w.heap.size ≤ i from fun i h => (n8 i h).elim (N4.out i) (fun h => Nat.le_trans B7.out.size h))
  clear s8 k8 n8
  go_wp2_with fail
  refine (stkPopI S8.out _).mono ?_
  rintro e w9 (⟨h, _⟩ | ⟨h, _⟩ | ⟨k, hi, hk, _, rfl, o9, a9, s9, k9⟩)
  · omega
  · simp at h; omega
  obtain rfl : k = xs.length + m := by simp at hk; omega
  rw [List.take_length_add_append] at s9
  rw [List.drop_length_add_append, show (xs ++ ys).length - (xs.length + m) = ys.length - m by simp <;> omega] at o9
  obtain ⟨n9, hn9⟩ : ∃ n, n = ys.length - m := ⟨_, rfl⟩
  rw [← hn9] at o9
  have HN9 := Lib.hid hn9
  clear hn9
  obtain ⟨ha, hc, rfl, _, _, _⟩ := o9.shape
  have S9 := Lib.hid s9
  have O9 := Lib.hid o9
  have A9 := Lib.hid a9
  have B9 := Lib.hid (below_step B8.out (Nat.le_refl _) k9 N8.out)
  clear s9 o9 a9 k9 hk
  go_wp2_with fail
  refine (stkPopI S9.out _).mono ?_
  rintro e w10 (⟨h, _⟩ | ⟨h, _⟩ | ⟨k, lo, hk, _, rfl, o10, a10, s10, k10⟩)
  · omega
  · simp at h; omega
  obtain rfl : k = xs.length := by simp at hk; omega
  rw [List.take_left] at s10
  rw [List.drop_left, show (xs ++ ys.take m).length - xs.length = m by simp <;> omega] at o10
  obtain ⟨la2, lc2, rfl, _, _, _⟩ := o10.shape
  have S10 := Lib.hid s10
  have O10 := Lib.hid o10
  have P10 := Lib.hid (O9.out.frame k10 (fun i h => (A9.out i h).2))
  have B10 := Lib.hid (below_step B9.out (Nat.le_refl _) k10 N8.out)
  clear s10 o10 a10 k10 hk
  have T10 : Hid (Rd w10 1 (.slice la2 m lc2) (ys.take m).length (cellsOf encI (ys.take m))) := Lib.hid (by rw [List.length_take, Nat.min_eq_left (by omega)]; exact O10.out.rd)
  have U10 : Hid (Rd w10 1 (.slice b m cb) (ys.take m).length (cellsOf encI (ys.take m))) := Lib.hid (by rw [List.length_take, Nat.min_eq_left (by omega)]; exact HYH.out.later B10.out)
  go_wp2_with fail
  refine (sameI _ _ (ys.take m) (ys.take m) w10 T10.out U10.out).mono ?_
  rintro e w11 ⟨rfl, k11⟩
  have S11 := Lib.hid (S10.out.frame k11 (fun _ _ => id))
  have P11 := Lib.hid (P10.out.frame k11 (fun _ _ => id))
  have B11 := Lib.hid (below_step B10.out (Nat.le_refl _) k11 (fun _ h => h.elim))
  rw [decide_eq_true (rfl : ys.take m = ys.take m)]
  clear k11
  have T11 : Hid (Rd w11 1 (.slice ha n9 hc) (ys.drop m).length (cellsOf encI (ys.drop m))) := Lib.hid (by rw [List.length_drop, ← HN9.out]; exact P11.out.rd)
  have U11 : Hid (Rd w11 1 tv (ys.drop m).length (cellsOf encI (ys.drop m))) := Lib.hid (by rw [List.length_drop]; exact HYT.out.later B11.out)
  go_wp2_with fail
  refine (sameI _ _ (ys.drop m) (ys.drop m) w11 T11.out U11.out).mono ?_
  rintro e w12 ⟨rfl, k12⟩
  have S12 := Lib.hid (S11.out.frame k12 (fun _ _ => id))
  have B12 := Lib.hid (below_step B11.out (Nat.le_refl _) k12 (fun _ h => h.elim))
  rw [decide_eq_true (rfl : ys.drop m = ys.drop m)]
  clear k12
  go_wp2_with fail
  refine (stkListI S12.out).mono ?_
  rintro e w13 ⟨rv, rfl, o13, k13, n13⟩
  have O13 := Lib.hid o13
  have B13 := Lib.hid (below_step B12.out (Nat.le_refl _) k13 (fun _ h => h.elim))
  clear o13 k13 n13
  go_wp2_with fail
  refine (sameI _ _ xs xs w13 O13.out.rd (HX.out.later B13.out)).mono ?_
  rintro e w14 ⟨rfl, k14⟩
  have B14 := Lib.hid (below_step B13.out (Nat.le_refl _) k14 (fun _ h => h.elim))
  rw [decide_eq_true (rfl : xs = xs)]
  clear k14
  go_wp2
  go_ret
  exact ⟨rfl, B14.out⟩

end Go.Proofs.Ythkkpnlgjkdneaa
