/- The walk of StackApart, n in one case. -/
import Derived.Test.YthkkpnlgjkdneaaWakes1
import Derived.Test.YthkkpnlgjkdneaaRoomy
import Derived.Test.YthkkpnlgjkdneaaRws
namespace Go.Proofs.Ythkkpnlgjkdneaa
open Go.RowKit
set_option linter.unusedVariables false
set_option linter.unusedSimpArgs false

set_option maxRecDepth 100000 in
set_option maxHeartbeats 4000000 in
theorem stackApart_lo (v0 : Value) (xs : List Int) (w : World) (hx : Rd w 1 v0 xs.length (cellsOf encI xs)) {m : Int} (hm : m < 0) (hs : xs.length ≤ 262144) :
    Calls Try.prog 3 #[v0, .int .i64 m] w fun e w' => e = .returned (.bool true) ∧ Below w.heap.size w w' := by
  obtain ⟨_, a, ca, rfl, ka1, ka2, ka3, _⟩ := id hx
  have htx := fun w => run_slice_tail slInt w a (n := xs.length) (c := ca) (k := 0) (by omega) ka1
  try simp only [Int.natCast_zero] at htx
  have hxt := hx.tailV (k := 0) (by omega)
  rw [cellsOf_drop sizeI xs (by omega)] at hxt
  generalize tailV a xs.length ca (0) 1 = tx at htx hxt
  have HX := Lib.hid hx
  have HXT := Lib.hid hxt
  have hw1 : IntKind.i64.wrap (3 * (xs.length : Int)) = 3 * (xs.length : Int) := IntWalk.i64_in _ (by omega)
  have hw2 : IntKind.i64.wrap (2 * (xs.length : Int)) = 2 * (xs.length : Int) := IntWalk.i64_in _ (by omega)
  have hw3 : (xs.length : Int) - ((xs.length : Nat) : Int) = ((0 : Nat) : Int) := by omega
  have hle : (xs.length : Int) ≤ 262144 := by omega
  clear hx hxt ka3 ka2
  go_enter Try.func3, Try.ntmps3
  go_wp2_with fail
  refine (wakes_any w).mono ?_
  rintro e w1 ⟨rfl, hb1⟩
  have B1 := Lib.hid hb1
  clear hb1
  go_wp2_with fail
  refine (stkNewI _ w1).mono ?_
  rintro e w2 (⟨h, _⟩ | ⟨limit, hl, _, rfl, s2, k2⟩)
  · exact absurd (by omega) h
  obtain rfl : limit = 3 * xs.length := by omega
  have S2 := Lib.hid s2
  have B2 := Lib.hid (below_step B1.out (Nat.le_refl _) k2 (fun _ h => h.elim))
  have N2 := Lib.hid (show ∀ i, i = w1.heap.size → w.heap.size ≤ i from fun i h => by have := B1.out.size; omega)
  clear s2 k2 hl
  generalize w1.heap.size = sb at S2 N2 ⊢
  go_wp2_with fail
  refine (roomy _ xs w2 (HX.out.later B2.out) (by omega)).mono ?_
  rintro e w3 ⟨fv, rfl, o3, k3, n3⟩
  obtain ⟨fa, fc, rfl, f1, f2, _⟩ := o3.shape
  have S3 := Lib.hid (S2.out.frame k3 (fun _ _ => id))
  have B3 := Lib.hid (below_step B2.out (Nat.le_refl _) k3 (fun _ h => h.elim))
  have O3 := Lib.hid o3
  have NF := Lib.hid (show ∀ b, (Value.slice fa (xs.length + 20) fc).ownBlock = some b → w.heap.size ≤ b from fun b hb => Nat.le_trans B2.out.size (n3 b hb))
  have D3 := Lib.hid (show ∀ b, b = sb → (Value.slice fa (xs.length + 20) fc).ownBlock ≠ some b from fun b h1 h2 => by have := S2.out.lt h1; have := n3 b h2; omega)
  have hfh := fun w => run_slice_head slInt w fa (n := xs.length + 20) (c := fc) (k := xs.length) (by omega)
  have R3 : Hid (Rd w3 1 (.slice fa xs.length fc) xs.length (cellsOf encI xs)) := Lib.hid (by
    have := o3.rd.head (k := xs.length) (by omega)
    rw [cellsOf_take sizeI _ (by simp), List.take_left] at this
    exact this)
  clear k3 o3 n3
  go_wp2_with fail
  clear hfh
  refine (stkPushI S3.out _ xs R3.out).mono ?_
  rintro e w4 (⟨h, _⟩ | ⟨_, rfl, F4, s4, k4, n4⟩)
  · exact absurd h (by rw [List.length_nil]; omega)
  rw [List.nil_append] at s4
  have S4 := Lib.hid s4
  have B4 := Lib.hid (below_step B3.out (Nat.le_refl _) k4 (fun i h => N2.out i h))
  have N4 := Lib.hid (show ∀ i, F4 i → w.heap.size ≤ i from fun i h => (n4 i h).elim (N2.out i) (fun h => Nat.le_trans B3.out.size h))
  have O4 := Lib.hid (O3.out.frame k4 (fun b hb h => D3.out b h hb))
  have D4 := Lib.hid (show ∀ b, F4 b → (Value.slice fa (xs.length + 20) fc).ownBlock ≠ some b from fun b h1 h2 => by
    rcases n4 b h1 with h | h
    · exact D3.out b h h2
    · have := O3.out.lt h2; omega)
  clear s4 k4 n4 R3
  go_wp2_with fail
  refine (kept_any _ _ xs w4 O4.out.rd (HX.out.later B4.out) (by omega)).mono ?_
  rintro e w5 ⟨rfl, k5⟩
  have S5 := Lib.hid (S4.out.frame k5 (fun _ _ => id))
  have B5 := Lib.hid (below_step B4.out (Nat.le_refl _) k5 (fun _ h => h.elim))
  have O5 := Lib.hid (O4.out.frame k5 (fun _ _ => id))
  clear k5
  go_wp2_with fail
  go_loopw [10] (fun i wr => ∃ k : Nat, k ≤ xs.length + 20 ∧ i = .int .i64 k ∧ Hid (StkI wr (.pointer (some ⟨sb, 0, none⟩)) F4 (3 * xs.length) xs ∧ Below w.heap.size w wr ∧ ∃ Y : List Int, Y.length = xs.length + 20 ∧ Own wr 3 1 (.slice fa (xs.length + 20) fc) (xs.length + 20) (cellsOf encI Y))) (fun i _ => xs.length + 20 - (intOf i).toNat)
  case atStart => exact ⟨0, Nat.zero_le _, rfl, Lib.hid ⟨S5.out, B5.out, xs ++ tail20 20, by simp [tail20_length], O5.out⟩⟩
  case round =>
    obtain ⟨k, hk, rfl, hH⟩ := hrel
    obtain ⟨hS, hB, Y, hY, hO⟩ := hH.out
    by_cases hlt : k < xs.length + 20
    · obtain ⟨g, off, cap, hv, _, _, hcl, hfz, hg⟩ := hO.elt (by omega)
      simp only [Value.slice.injEq, true_and] at hv
      obtain ⟨rfl, rfl⟩ := hv
      have cx : wr.cell? ⟨g, off + k, none⟩ = some (.int .i64 (Y[k]'(by omega))) := hcl k _ (by rw [cellsOf_encI]; simp [hY, hlt])
      have fx : wr.frozen? ⟨g, off + k, none⟩ = false := hfz _
      generalize Y[k]'(by omega) = y at cx
      have hO' := hO.setAt (j := k) (by omega) (.int .i64 (-1))
      rw [show Value.int .i64 (-1) = encI (-1) from rfl, cellsOf_setI] at hO'
      have hkk := (Kept.refl (fun b => b = g) wr).setCell (p := ⟨g, off + k, none⟩) (fun _ => rfl) (encI (-1))
      have hS' := hS.frame hkk (fun b hb h => D4.out b hb (by rw [h]; rfl))
      have Q := Lib.hid (show StkI (wr.setCell ⟨g, off + k, none⟩ (.int .i64 (-1))) (.pointer (some ⟨sb, 0, none⟩)) F4 (3 * xs.length) xs ∧ Below w.heap.size w (wr.setCell ⟨g, off + k, none⟩ (.int .i64 (-1))) ∧ ∃ Y : List Int, Y.length = xs.length + 20 ∧ Own (wr.setCell ⟨g, off + k, none⟩ (.int .i64 (-1))) 3 1 (.slice (some ⟨g, off, none⟩) (xs.length + 20) fc) (xs.length + 20) (cellsOf encI Y) from
        ⟨hS', below_step hB (Nat.le_refl _) hkk (fun b h => NF.out b (by rw [h]; rfl)), _, by rw [List.length_set]; exact hY, hO'⟩)
      clear hH hS hB hY hO hcl hfz hO' hkk hS'
      go_wp2
      go_roundw
      case rel => exact ⟨k + 1, by omega, by go_num, Q⟩
      case measure => simp [intOf]; omega
    · obtain rfl : k = xs.length + 20 := by omega
      have SR := Lib.hid hS
      have BR := Lib.hid hB
      have HYL := Lib.hid hY
      have OR := Lib.hid hO
      clear hH hS hB hO hlt hk hY
      go_wp2_with fail
      refine (stkPushI SR.out _ xs (HX.out.later BR.out)).mono ?_
      rintro e w6 (⟨h, _⟩ | ⟨_, rfl, F6, s6, k6, n6⟩)
      · exact absurd h (by omega)
      have S6 := Lib.hid s6
      have B6 := Lib.hid (below_step BR.out (Nat.le_refl _) k6 N4.out)
      have N6 := Lib.hid (show ∀ i, F6 i → w.heap.size ≤ i from fun i h => (n6 i h).elim (N4.out i) (fun h => Nat.le_trans BR.out.size h))
      have R6 := Lib.hid (show Rs w6 w.heap.size F6 ([] ++ [.slice fa (xs.length + 20) fc]) ([] ++ [Y]) from
        ⟨(RwsIs.nil w6).snoc (by rw [HYL.out]; exact OR.out.frame k6 (fun b hb h => D4.out b h hb)) (by simp), fun v hv b hb h => by
          simp only [List.nil_append, List.mem_singleton] at hv
          subst hv
          rcases n6 b h with h | h
          · exact D4.out b h hb
          · have := OR.out.lt hb; omega, fun v hv b hb => by
          simp only [List.nil_append, List.mem_singleton] at hv
          subst hv
          exact NF.out b hb⟩)
      clear s6 k6 n6 SR OR D4 N4 S5 O5 B5 S4 O4 B4 S3 B3 O3 D3 S2 B2 N2 B1 BR
      obtain ⟨L, hL⟩ : ∃ L, L = (xs ++ xs).length := ⟨_, rfl⟩
      have HL := Lib.hid hL
      have hL2 : L = xs.length + xs.length := by rw [hL, List.length_append]
      have HL2 := Lib.hid hL2
      clear hL2 hL
      go_wp2_with fail
      refine (stkListI S6.out).mono ?_
      rintro e w7 ⟨lv, rfl, o7, k7, n7⟩
      obtain ⟨la, lc, hlv, l1, l2, _⟩ := o7.shape
      rw [← HL.out] at hlv l1
      subst hlv
      have S7 := Lib.hid (S6.out.frame k7 (fun _ _ => id))
      have B7 := Lib.hid (below_step B6.out (Nat.le_refl _) k7 (fun _ h => h.elim))
      have R7 := Lib.hid (R6.out.new k7 (fun _ h => h.elim) (fun b h => S6.out.lt h) B6.out.size o7 n7)
      clear o7 k7 n7
      go_wp2_with fail
      refine (stkListI S7.out).mono ?_
      rintro e w8 ⟨mv, rfl, o8, k8, n8⟩
      obtain ⟨ma, mc, hmv, _, _, _⟩ := o8.shape
      rw [← HL.out] at hmv
      subst hmv
      have S8 := Lib.hid (S7.out.frame k8 (fun _ _ => id))
      have B8 := Lib.hid (below_step B7.out (Nat.le_refl _) k8 (fun _ h => h.elim))
      have R8 := Lib.hid (R7.out.new k8 (fun _ h => h.elim) (fun b h => S7.out.lt h) B7.out.size o8 n8)
      clear o8 k8 n8
      go_wp2_with fail
      refine (stkPopI S8.out _).mono ?_
      rintro e w9 (⟨h, _⟩ | ⟨h, _⟩ | ⟨k, pv, hk, _, rfl, o9, a9, s9, k9⟩)
      · omega
      · simp at h; omega
      obtain ⟨KK, hKK⟩ : ∃ KK, KK = L - xs.length := ⟨_, rfl⟩
      obtain rfl : k = KK := by have := HL2.out; simp at hk; omega
      have e9 : (xs ++ xs).drop k = xs.drop (0) := by
        have := HL2.out
        rw [show k = xs.length + (0) by omega, List.drop_length_add_append]
      have e9' : (xs ++ xs).length - k = (xs.drop (0)).length := by have := HL2.out; simp; omega
      rw [e9, e9'] at o9
      have hR : ((xs ++ xs).take k).length = k := by have := HL2.out; simp; omega
      have HK := Lib.hid hKK
      have HR := Lib.hid hR
      have S9 := Lib.hid s9
      have B9 := Lib.hid (below_step B8.out (Nat.le_refl _) k9 N6.out)
      have R9 := Lib.hid (R8.out.new k9 (fun _ h => h) (fun b h => S8.out.lt h) B8.out.size o9 (fun b hb => (a9 b hb).1))
      obtain ⟨PL, hPL⟩ : ∃ PL, PL = (xs.drop (0)).length := ⟨_, rfl⟩
      have HPL := Lib.hid hPL
      obtain ⟨pa, pc, hpv, _, _, _⟩ := o9.shape
      rw [← hPL] at hpv
      subst hpv
      clear s9 o9 a9 k9 hk e9 e9' hKK hR hPL
      go_wp2_with fail
      refine (stkPopI S9.out 0).mono ?_
      rintro e w10 (⟨h, _⟩ | ⟨h, _⟩ | ⟨k', qv, hk', _, rfl, o10, a10, s10, k10⟩)
      · omega
      · omega
      obtain rfl : k' = k := by rw [HR.out] at hk'; omega
      have e10 : ((xs ++ xs).take k').drop k' = [] := List.drop_of_length_le (by rw [HR.out]; exact Nat.le_refl _)
      have e10' : ((xs ++ xs).take k').take k' = (xs ++ xs).take k' := List.take_of_length_le (by rw [HR.out]; exact Nat.le_refl _)
      rw [e10, HR.out, Nat.sub_self] at o10
      rw [e10'] at s10
      obtain ⟨qa, qc, rfl, _, _, _⟩ := o10.shape
      have S10 := Lib.hid s10
      have B10 := Lib.hid (below_step B9.out (Nat.le_refl _) k10 N6.out)
      have R10 := Lib.hid (R9.out.new (Y := []) k10 (fun _ h => h) (fun b h => S9.out.lt h) B9.out.size o10 (fun b hb => (a10 b hb).1))
      clear s10 o10 a10 k10 hk' e10 e10'
      go_wp2_with fail
      refine (stkListI S10.out).mono ?_
      rintro e w11 ⟨rv, rfl, o11, k11, n11⟩
      obtain ⟨ra, rc, hrv, r1, r2, _⟩ := o11.shape
      rw [HR.out] at hrv
      subst hrv
      have S11 := Lib.hid (S10.out.frame k11 (fun _ _ => id))
      have B11 := Lib.hid (below_step B10.out (Nat.le_refl _) k11 (fun _ h => h.elim))
      have R11 := Lib.hid (R10.out.new k11 (fun _ h => h.elim) (fun b h => S10.out.lt h) B10.out.size o11 n11)
      clear o11 k11 n11
      have hlne : ((L : Int) != 2 * (xs.length : Int)) = false := by have := HL2.out; simp; omega
      have hlh := fun w => run_slice_head slInt w la (n := L) (c := lc) (k := xs.length) (by have := HL2.out; omega)
      have hlt := fun w => run_slice_tail slInt w la (n := L) (c := lc) (k := xs.length) (by have := HL2.out; omega) l1
      have hlk := fun w => run_slice_head slInt w la (n := L) (c := lc) (k := k') (by have := HL2.out; have := HK.out; omega)
      have hwk : (L : Int) - ((xs.length : Nat) : Int) = (k' : Int) := by have := HL2.out; have := HK.out; omega
      have hwk2 : k' ≤ 1048576 := by have := HL2.out; have := HK.out; omega
      have ol : Own w11 3 1 (.slice la L lc) (xs ++ xs).length (cellsOf encI (xs ++ xs)) := R11.out.1.own 1 (by simp)
      rw [← HL.out] at ol
      have ol1 := ol.rd.head (k := xs.length) (by have := HL2.out; omega)
      rw [cellsOf_take sizeI _ (by simp), List.take_left] at ol1
      have ol2 := ol.rd.tailV (k := xs.length) (by have := HL2.out; omega)
      rw [cellsOf_drop sizeI _ (by simp), List.drop_left, show L - xs.length = xs.length by have := HL2.out; omega] at ol2
      have ol3 := ol.rd.head (k := k') (by have := HL2.out; have := HK.out; omega)
      rw [cellsOf_take sizeI _ (by have := HL2.out; have := HK.out; simp; omega)] at ol3
      generalize tailV la L lc xs.length 1 = tl at hlt ol2
      have OL1 := Lib.hid ol1
      have OL2 := Lib.hid ol2
      have OL3 := Lib.hid ol3
      have OL := Lib.hid ol
      have OM := Lib.hid (show Own w11 3 1 (.slice ma L mc) (xs ++ xs).length (cellsOf encI (xs ++ xs)) from R11.out.1.own 2 (by simp))
      have OP := Lib.hid (show Own w11 3 1 (.slice pa PL pc) (xs.drop (0)).length (cellsOf encI (xs.drop (0))) from R11.out.1.own 3 (by simp))
      have OR := Lib.hid (show Own w11 3 1 (.slice ra k' rc) ((xs ++ xs).take k').length (cellsOf encI ((xs ++ xs).take k')) from R11.out.1.own 5 (by simp))
      clear ol ol1 ol2 ol3
      go_wp2_with fail
      with_reducible refine (sameI _ _ xs xs w11 OL1.out (HX.out.later B11.out)).mono ?_
      rintro e w12 ⟨rfl, k12⟩
      rw [decide_eq_true (rfl : xs = xs)]
      have K12 := Lib.hid k12
      clear k12
      go_wp2_with fail
      refine (sameI _ _ xs xs w12 (OL2.out.frame K12.out (fun _ _ => id)) ((HX.out.later B11.out).frame K12.out (fun _ _ => id))).mono ?_
      rintro e w13 ⟨rfl, k13⟩
      rw [decide_eq_true (rfl : xs = xs)]
      have K13 := Lib.hid (K12.out.trans k13)
      clear k13
      go_wp2_with fail
      refine (sameI _ _ (xs ++ xs) (xs ++ xs) w13 (by rw [← HL.out]; exact (OL.out.frame K13.out (fun _ _ => id)).rd) ((OM.out.frame K13.out (fun _ _ => id)).rd)).mono ?_
      rintro e w14 ⟨rfl, k14⟩
      rw [decide_eq_true (rfl : xs ++ xs = xs ++ xs)]
      have K14 := Lib.hid (K13.out.trans k14)
      clear k14
      go_wp2_with fail
      have TXD := Lib.hid (show Rd w14 1 tx (xs.drop (0)).length (cellsOf encI (xs.drop (0))) from by
        rw [List.length_drop]
        exact (HXT.out.later B11.out).frame K14.out (fun _ _ => id))
      with_reducible refine (sameI _ _ (xs.drop (0)) (xs.drop (0)) w14 (OP.out.frame K14.out (fun _ _ => id)).rd TXD.out).mono ?_
      rintro e w15 ⟨rfl, k15⟩
      rw [decide_eq_true (rfl : xs.drop (0) = xs.drop (0))]
      have K15 := Lib.hid (K14.out.trans k15)
      clear k15
      have RR := Lib.hid (show Rd w15 1 (.slice ra k' rc) ((xs ++ xs).take k').length (cellsOf encI ((xs ++ xs).take k')) from (OR.out.frame K15.out (fun _ _ => id)).rd)
      have RL := Lib.hid (show Rd w15 1 (.slice la k' lc) ((xs ++ xs).take k').length (cellsOf encI ((xs ++ xs).take k')) from by
        rw [HR.out]
        exact OL3.out.frame K15.out (fun _ _ => id))
      go_wp2_with fail
      with_reducible refine (sameI _ _ ((xs ++ xs).take k') ((xs ++ xs).take k') w15 RR.out RL.out).mono ?_
      rintro e w16 ⟨rfl, k16⟩
      rw [decide_eq_true (rfl : (xs ++ xs).take k' = (xs ++ xs).take k')]
      have K16 := Lib.hid (K15.out.trans k16)
      have S16 := Lib.hid (S11.out.frame K16.out (fun _ _ => id))
      have B16 := Lib.hid (below_step B11.out (Nat.le_refl _) K16.out (fun _ h => h.elim))
      have R16 := Lib.hid (R11.out.frame K16.out (fun _ h => h.elim))
      have OR16 := Lib.hid (show Rd w16 1 (.slice ra k' rc) k' (cellsOf encI ((xs ++ xs).take k')) from by
        have := (OR.out.frame K16.out (fun _ _ => id)).rd
        rwa [HR.out] at this)
      have HT : Hid (Fits (0 + k') 8) := Lib.hid (fits_of (by have := HL2.out; have := HK.out; omega) (by decide))
      clear k16 K12 K13 K14 K15 K16 OL1 OL2 OL3 OL OM OP OR RR RL TXD S11 B11 R11 S10 B10 R10 S9 B9 R9 S8 B8 R8 S7 B7 R7 hlh hlt hlk htx
      go_wp2_with (at_builtin; refine wpList_append slInt (v := .slice (some ⟨w16.heap.size, 0, none⟩) 0 0) (vx := .slice ra k' rc) (n := 0) (m := k') (xs := []) (news := cellsOf encI ((xs ++ xs).take k')) rfl _ _ rfl rfl rfl (Own.fresh (n := 0) (by rfl) (by decide)) (OR16.out.alloc _) (oneI _) HT.out ?_; intro v17 w17 hown17 hk17 hb17 _)
      rw [Nat.zero_add, List.nil_append] at hown17
      obtain ⟨wa, wc, rfl, _, _, _⟩ := hown17.shape
      have hn17 : ∀ b, (Value.slice wa k' wc).ownBlock = some b → w16.heap.size ≤ b := fun b hb => (hb17 b hb).elim (fun h => by simp [Value.ownBlock] at h; omega) (fun h => by simp at h; omega)
      have hk1617 : Kept (fun _ => False) w16 w17 := ((Kept.refl (fun _ => False) w16).alloc _).trans' hk17 (fun i hi h => by simp [Value.ownBlock] at h; omega)
      have S17 := Lib.hid (S16.out.frame hk1617 (fun _ _ => id))
      have B17 := Lib.hid (below_step B16.out (Nat.le_refl _) hk1617 (fun _ h => h.elim))
      have R17 := Lib.hid (R16.out.frame hk1617 (fun _ h => h.elim))
      have O17 := Lib.hid hown17
      have N17 := Lib.hid hn17
      have Z16 := Lib.hid (show ∀ v ∈ ([] ++ [Value.slice fa (xs.length + 20) fc] ++ [.slice la L lc] ++ [.slice ma L mc] ++ [.slice pa PL pc] ++ [.slice qa 0 qc] ++ [.slice ra k' rc] : List Value), ∀ b, v.ownBlock = some b → b < w16.heap.size from fun v hv b hb => R16.out.1.lt hv hb)
      have FZ := Lib.hid (show ∀ b, F6 b → b < w16.heap.size from fun b h => S16.out.lt h)
      clear hown17 hn17 hk17 hb17 hk1617 S16 B16 R16 OR16 HT
      go_wp2_with fail
      have OW := Lib.hid (Own.fresh (w := w17) (e := 22) (sz := 1) (n := 6) (cs := #[.slice fa (xs.length + 20) fc, .slice la L lc, .slice ma L mc, .slice pa PL pc, .slice qa 0 qc, .slice ra k' rc]) (by rfl) (by decide))
      refine (Rs.apart (R17.out.frame ((Kept.refl (fun _ => False) w17).alloc _) (fun _ h => h.elim)) (by simp) ?_ ?_ OW.out ?_).mono ?_
      case refine_1 =>
        intro Z hZ
        have := HL2.out
        have := HYL.out
        have := HR.out
        have := HK.out
        simp only [List.nil_append, List.cons_append, List.mem_cons, List.not_mem_nil, or_false] at hZ
        rcases hZ with rfl | rfl | rfl | rfl | rfl | rfl <;> simp <;> omega
      case refine_2 =>
        have := HL2.out
        have := HYL.out
        have := HR.out
        have := HK.out
        simp
        omega
      case refine_3 =>
        intro v hv b hb h
        have := R17.out.1.lt hv hb
        simp [Value.ownBlock] at h
        omega
      rintro e w18 ⟨rfl, k18⟩
      have HKA := Lib.hid ((Kept.refl (fun _ => False) w17).alloc (.cells #[.slice fa (xs.length + 20) fc, .slice la L lc, .slice ma L mc, .slice pa PL pc, .slice qa 0 qc, .slice ra k' rc] 22))
      have S18 := Lib.hid ((S17.out.frame HKA.out (fun _ _ => id)).frame k18 (fun b hb ⟨v, hv, h⟩ => R17.out.2.1 v hv b h hb))
      have B18 := Lib.hid (below_step (below_step B17.out (Nat.le_refl _) HKA.out (fun _ h => h.elim)) (Nat.le_refl _) k18 (fun b ⟨v, hv, h⟩ => R17.out.2.2 v hv b h))
      have O18 := Lib.hid ((O17.out.frame HKA.out (fun _ _ => id)).frame k18 (fun b hb ⟨v, hv, h⟩ => by have := Z16.out v hv b h; have := N17.out b hb; omega))
      clear k18 S17 B17 R17 O17
      go_wp2_with fail
      refine (stkListI S18.out).mono ?_
      rintro e w19 ⟨v19, rfl, o19, k19, n19⟩
      have O19 := Lib.hid o19
      have P19 := Lib.hid (show Rd w19 1 (.slice wa k' wc) ((xs ++ xs).take k').length (cellsOf encI ((xs ++ xs).take k')) from by
        rw [HR.out]
        exact (O18.out.frame k19 (fun _ _ => id)).rd)
      have B19 := Lib.hid (below_step B18.out (Nat.le_refl _) k19 (fun _ h => h.elim))
      clear o19 k19 n19
      go_wp2_with fail
      with_reducible refine (sameI _ _ ((xs ++ xs).take k') ((xs ++ xs).take k') w19 O19.out.rd P19.out).mono ?_
      rintro e w20 ⟨rfl, k20⟩
      rw [decide_eq_true (rfl : (xs ++ xs).take k' = (xs ++ xs).take k')]
      have B20 := Lib.hid (below_step B19.out (Nat.le_refl _) k20 (fun _ h => h.elim))
      clear k20
      go_wp2
      go_ret
      exact ⟨rfl, B20.out⟩

end Go.Proofs.Ythkkpnlgjkdneaa
