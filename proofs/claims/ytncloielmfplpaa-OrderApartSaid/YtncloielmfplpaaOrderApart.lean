/- The walk of OrderApart. -/
import Derived.Test.YtncloielmfplpaaRefG5
import Derived.Test.YtncloielmfplpaaRefR5
import Derived.Test.YtncloielmfplpaaSame5
import Derived.Test.YtncloielmfplpaaReachAI
import Derived.Test.YtncloielmfplpaaWakes5
import Derived.Test.YtncloielmfplpaaRoom5
import Derived.Test.YtncloielmfplpaaRows5
import Derived.Deep.QuietTactic
import Derived.StillTailTactics
namespace Go.Proofs.Ytncloielmfplpaa
open Go.ChangeShapes Go.WideShapes Go.ChangeAt Go.RowKit
set_option linter.unusedVariables false
set_option linter.unusedSimpArgs false

theorem slPrI : SlT Try.prog 23 31 (.agg #[.int .i64 0, .int .i64 0]) 2 16 := SlT.mk' Try.underlying23 (by kernel_rfl) rfl (by decide) (by decide)

theorem onePr (l : List (Int × Int)) : ∀ u ∈ cellsOf encPrI l, u.oneCell' = true := by
  intro u hu
  obtain ⟨k, _, hk⟩ := List.mem_flatMap.1 hu
  simp [encPrI, encI, Value.cells] at hk
  rcases hk with rfl | rfl <;> rfl

theorem gOut_le {nodes : List Int} {uses : List (Int × Int)} : ∀ Y ∈ gOut nodes uses, Y.length ≤ nodes.length := by
  intro Y hY
  unfold gOut at hY
  split at hY
  · obtain ⟨o, _, rfl⟩ := List.mem_map.1 hY
    exact pick_le _ _
  · cases hY

theorem gOut_few {nodes : List Int} {uses : List (Int × Int)} (h : nodes.length ≤ 100) : (gOut nodes uses).length ≤ 100 := by
  rcases errOf_cases nodes uses with hE | hE
  · have HP := parts_ok hE
    have h1 : ∀ l : List (List Int), (∀ i (h : i < l.length), 0 < l[i].length) → l.length ≤ (l.map List.length).sum := by
      intro l
      induction l with
      | nil => intro _; exact Nat.zero_le _
      | cons a l ih =>
        intro h
        have h2 := ih (fun i hi => h (i + 1) (by simp; omega))
        have h3 := h 0 (by simp)
        simp only [List.getElem_cons_zero] at h3
        simp only [List.length_cons, List.map_cons, List.sum_cons]
        omega
    have := h1 _ HP.ne
    rw [HP.sum] at this
    omega
  · unfold gOut
    rw [if_neg (by rcases hE with h | h <;> rw [h] <;> decide)]
    exact Nat.zero_le _

theorem sliceCell {w : World} {e : TypeId} {sz n : Nat} {v : Value} {xs : List Value} (h : Own w e sz v n xs) : v.oneCell' = true := by
  obtain ⟨a, c, rfl, _⟩ := h.shape
  rfl

theorem VsIs.cells {α : Type} {e : TypeId} {enc : α → Value} {w : World} {vs : List Value} {Ys : List (List α)} (h : VsIs e enc w vs Ys) : ∀ u ∈ vs, u.oneCell' = true := by
  intro u hu
  obtain ⟨i, hi, rfl⟩ := List.mem_iff_getElem.1 hu
  exact sliceCell (h.own i hi (by rw [← h.len]; exact hi))

theorem Rows0R.own_of {w : World} {vs : List Value} {ns : List Nat} (h : Rows0R w vs ns) {v : Value} (hv : v ∈ vs) : ∃ us : List Value, Own w 22 1 v us.length us := by
  obtain ⟨i, hi, rfl⟩ := List.mem_iff_getElem.1 hv
  obtain ⟨us, _, h2⟩ := h.own i hi
  exact ⟨us, h2⟩

theorem apx_g6 {B : Nat} {w5 w6 : World} {lv rv gv : Value} {vs gs us : List Value} {Ys : List (List Int)} {ns : List Nat} {n : Nat} {o : Obj} (h : APx B w5 lv rv vs Ys gs ns) (g : Own w5 22 1 gv n us) (hg : ∀ b, gv.ownBlock = some b → lv.ownBlock ≠ some b)
    (k : Kept (fun b => lv.ownBlock = some b) (w5.alloc o) w6) : Own w6 22 1 gv n us ∧ Own w6 29 1 rv gs.length gs :=
  ⟨(g.alloc o).frame k hg, (h.row.alloc o).frame k (own_ne h.row h.lst (by decide))⟩

theorem apx_r7 {w6 w7 : World} {lv rv : Value} {gs xs : List Value} {n m : Nat} (r : Own w6 29 1 rv n gs) (l : Own w6 22 1 lv m xs) (k : Kept (fun b => lv.ownBlock = some b) w6 w7) : Own w7 29 1 rv n gs :=
  r.frame k (own_ne r l (by decide))

set_option maxRecDepth 100000 in
set_option maxHeartbeats 8000000 in
theorem orderApart_walk (nv uv : Value) (nodes : List Int) (uses : List (Int × Int)) (x : Int) (w : World) (hn : Rd w 1 nv nodes.length (cellsOf encI nodes)) (hu : Rd w 2 uv uses.length (cellsOf encPrI uses)) :
    Calls Try.prog 4 #[nv, uv, .int .i64 x] w fun e w' => e = .returned (.bool true) ∧ Below w.heap.size w w' := by
  obtain ⟨na, nc, rfl, n1, n2, n3⟩ := hn.2
  obtain ⟨ua, uc, rfl, u1, u2, u3⟩ := hu.2
  have HN := Lib.hid hn
  have HU := Lib.hid hu
  have U3 := Lib.hid u3.1
  unfold maxLen at n2 u2
  clear hn hu n3 u3
  by_cases hf : ¬ (nodes.length ≤ 100 ∧ uses.length ≤ 1000)
  · go_enter Try.func4, Try.ntmps4
    go_wp2_with fail
    refine (wakes5 w).mono ?_
    rintro e w1 ⟨rfl, hb1⟩
    go_wp2_with fail
    refine (fewN (w := w1) (na := na) (nc := nc) (ua := ua) (uc := uc) hf).mono ?_
    rintro e w2 ⟨rfl, rfl⟩
    go_wp2
    go_ret
    exact ⟨rfl, hb1⟩
  have hf1 : nodes.length ≤ 100 := by omega
  have hf2 : uses.length ≤ 1000 := by omega
  clear hf
  go_enter Try.func4, Try.ntmps4
  go_wp2_with fail
  refine (wakes5 w).mono ?_
  rintro e w1 ⟨rfl, hb1⟩
  have HB1 := Lib.hid hb1
  have HN1 := Lib.hid (HN.out.later hb1)
  have HU1 := Lib.hid (HU.out.later hb1)
  clear hb1
  go_wp2_with fail
  refine (fewY (w := w1) (na := na) (nc := nc) (ua := ua) (uc := uc) hf1 hf2).mono ?_
  rintro e w2 ⟨rfl, rfl⟩
  go_wp2_with fail
  refine (roomy _ nodes w1 HN1.out (by omega)).mono ?_
  rintro e w2 ⟨fv, rfl, f2⟩
  obtain ⟨fa, fc, rfl, fs1, fs2, _⟩ := f2.1.shape
  have F2 := Lib.hid f2.1
  have K2 := Lib.hid f2.2.1
  have NF := Lib.hid f2.2.2
  have HU2 := Lib.hid (HU1.out.frame f2.2.1 (fun _ _ => id))
  have HT0 : Hid (Fits (0 + uses.length) 16) := Lib.hid (fits_of (by omega) (by decide))
  have HT1 : Hid (Fits (uses.length + 1) 16) := Lib.hid (fits_of (by omega) (by decide))
  clear f2
  go_wp2_with (first
    | (at_builtin
       refine wpList_append slPrI (v := .slice (some ⟨w2.heap.size, 0, none⟩) 0 0) (vx := .slice ua uses.length uc) (news := cellsOf encPrI uses) (n := 0) (m := uses.length) (xs := []) rfl _ _ rfl rfl rfl (Own.fresh (n := 0) (by rfl) (by decide)) (HU2.out.alloc _) (onePr uses) HT0.out ?_
       intro v3 w3 ho3 hk3 hb3 _
       rw [Nat.zero_add, List.nil_append] at ho3
       obtain ⟨a3, c3, rfl, _, _, _⟩ := ho3.shape
       have O3 := Lib.hid ho3
       have K3 := Lib.hid ((K2.out.alloc (.cells #[] 31)).trans' hk3 (fun i hi h => by simp [Value.ownBlock] at h; have := K2.out.size; omega))
       have F3 := Lib.hid ((F2.out.alloc (.cells #[] 31)).frame hk3 (fun b hb h => by have := F2.out.lt hb; simp [Value.ownBlock] at h; omega))
       have N3 : Hid (∀ b, (Value.slice a3 uses.length c3).ownBlock = some b → w2.heap.size ≤ b) := Lib.hid fun b hb => by
         rcases hb3 b hb with h | h
         · simp [Value.ownBlock] at h; omega
         · simp at h; omega
       clear ho3 hk3 hb3)
    | (at_builtin
       refine wpList_append slPrI (v := .slice a3 uses.length c3) (vx := .slice (some ⟨w3.heap.size, 0, none⟩) 1 1) (news := [.int .i64 (-7), .int .i64 (-8)]) (n := uses.length) (m := 1) rfl _ _ rfl rfl rfl (O3.out.alloc _) (Own.rd (Own.fresh (n := 1) (by rfl) (by decide))) (by simp [Value.oneCell']) HT1.out ?_
       intro v4 w4 ho4 hk4 hb4 _
       obtain ⟨pa, pc, rfl, pp1, pp2, _⟩ := ho4.shape))
  have O4 : Hid (Own w4 31 2 (.slice pa (uses.length + 1) pc) (uses.length + 1) (cellsOf encPrI (uses ++ [(-7, -8)]))) := Lib.hid (by rw [cellsOf_append]; exact ho4)
  have K4 := Lib.hid ((K3.out.alloc (.cells #[.int .i64 (-7), .int .i64 (-8)] 31)).trans' hk4 (fun i hi h => by have := N3.out i h; have := K2.out.size; omega))
  have F4 := Lib.hid ((F3.out.alloc (.cells #[.int .i64 (-7), .int .i64 (-8)] 31)).frame hk4 (own_ne F3.out O3.out (by decide)))
  clear ho4 hk4 hb4
  have HN4 := Lib.hid (HN1.out.frame K4.out (fun _ _ => id))
  have HU4 := Lib.hid (HU1.out.frame K4.out (fun _ _ => id))
  clear O3 K3 F3 N3 K2 HT1 F2 HU2 HT0
  refine (refGroups5 HN4.out HU4.out hf1 hf2).mono ?_
  rintro e w5 ⟨wv, FW, rfl, lw, k5, _⟩
  have LW := Lib.hid lw
  have K5 := Lib.hid (K4.out.trans' k5 (fun _ _ h => h))
  have K45 := Lib.hid k5
  obtain ⟨wa, wc, rfl, _, _, _⟩ := lw.shape
  have HN5 := Lib.hid (HN4.out.frame k5 (fun _ _ => id))
  have HU5 := Lib.hid (HU4.out.frame k5 (fun _ _ => id))
  clear lw k5
  go_wp2_with fail
  refine (refReach5 HN5.out HU5.out hf1 hf2 x).mono ?_
  rintro e w6 ⟨yv, rfl, oy, k6, _⟩
  have OY := Lib.hid oy
  have K6 := Lib.hid (K5.out.trans' k6 (fun _ _ h => h))
  have K46 := Lib.hid (K45.out.trans' k6 (fun _ _ h => h))
  have LW6 := Lib.hid (LW.out.frame k6 (fun _ _ => id))
  obtain ⟨ya, yc, rfl, _, _, _⟩ := oy.shape
  have HN6 := Lib.hid (HN5.out.frame k6 (fun _ _ => id))
  have HU6 := Lib.hid (HU5.out.frame k6 (fun _ _ => id))
  have F6 := Lib.hid (F4.out.frame K46.out (fun _ _ => id))
  have P6 := Lib.hid (O4.out.frame K46.out (fun _ _ => id))
  clear oy k6 LW K5 K45 HN5 HU5 HN4 HU4 F4 O4 K4 K46
  obtain ⟨pg, po, pcap, hpv, _, _, _, _, _⟩ := P6.out.elt (by omega)
  simp only [Value.slice.injEq, true_and] at hpv
  obtain ⟨rfl, rfl⟩ := hpv
  have HPC : Hid (∀ wx, Kept (fun _ => False) w6 wx → ∀ i (hi : i < (uses ++ [(-7, -8)]).length), wx.cell? ⟨pg, po + i * 2, none⟩ = some (encI (uses ++ [(-7, -8)])[i].1) ∧ wx.cell? ⟨pg, po + i * 2 + 1, none⟩ = some (encI (uses ++ [(-7, -8)])[i].2)) := Lib.hid fun wx hk i hi => by
    have h := rdPrI (n := uses.length + 1) (c := pc) (us := uses ++ [(-7, -8)]) (ad := ⟨pg, po, none⟩) (by
      have := (P6.out.frame hk (fun _ _ => id)).rd
      rw [show uses.length + 1 = (uses ++ [((-7 : Int), (-8 : Int))]).length by simp] at this
      rw [show uses.length + 1 = (uses ++ [((-7 : Int), (-8 : Int))]).length by simp]
      exact this) hi
    rw [Addr.add_lit] at h
    exact h
  have HD1 := fun w => run_slice_head slInt w fa (n := nodes.length + 20) (c := fc) (k := nodes.length) (by omega)
  have HD2 := fun w => run_slice_head slPrI w (some ⟨pg, po, none⟩) (n := uses.length + 1) (c := pc) (k := uses.length) (by omega)
  have FH6 : Hid (Rd w6 1 (.slice fa nodes.length fc) nodes.length (cellsOf encI nodes)) := Lib.hid (by
    have := F6.out.rd.head (k := nodes.length) (by omega)
    rw [cellsOf_take sizeI _ (by simp), List.take_left] at this
    exact this)
  have PH6 : Hid (Rd w6 2 (.slice (some ⟨pg, po, none⟩) uses.length pc) uses.length (cellsOf encPrI uses)) := Lib.hid (by
    have := P6.out.rd.head (k := uses.length) (by omega)
    rw [cellsOf_take (enc := encPrI) (sz := 2) (fun _ => rfl) _ (by simp), List.take_left] at this
    exact this)
  have HGL : Hid ((gOut nodes uses).length ≤ 100 ∧ ∀ Y ∈ gOut nodes uses, Y.length ≤ 100) := Lib.hid ⟨gOut_few hf1, fun Y hY => Nat.le_trans (gOut_le Y hY) hf1⟩
  have HRL : Hid ((rOut nodes uses x).length ≤ 100) := Lib.hid (Nat.le_trans rOut_le hf1)
  have HCG : Hid (∀ wx, Kept (fun _ => False) w6 wx → Calls Try.prog 15 #[.slice fa nodes.length fc, .slice (some ⟨pg, po, none⟩) uses.length pc] wx fun e w' => ∃ v FO, e = .returned (.tuple #[v, .int .i64 (errOf nodes uses)]) ∧ LsXI w' v FO (gOut nodes uses) ∧ Kept (fun _ => False) wx w' ∧ ∀ b, FO b → wx.heap.size ≤ b) :=
    Lib.hid fun wx hk => groupsI (FH6.out.frame hk (fun _ _ => id)) (PH6.out.frame hk (fun _ _ => id)) hf1 hf2
  have HCR : Hid (∀ wx, Kept (fun _ => False) w6 wx → Calls Try.prog 10 #[.slice fa nodes.length fc, .slice (some ⟨pg, po, none⟩) uses.length pc, .int .i64 x] wx fun e w' => ∃ v, e = .returned (.tuple #[v, .int .i64 (rErr nodes uses x)]) ∧ Fresh wx w' 3 1 v (rOut nodes uses x).length (cellsOf encI (rOut nodes uses x))) :=
    Lib.hid fun wx hk => reachAllI (FH6.out.frame hk (fun _ _ => id)) (PH6.out.frame hk (fun _ _ => id)) hf1 hf2 x
  generalize gOut nodes uses = G at HGL HCG LW6
  generalize rOut nodes uses x = R at HRL HCR OY
  generalize errOf nodes uses = er at HCG
  generalize rErr nodes uses x = rr at HCR
  have herr : (er != er) = false := by simp
  have hrrr : (rr != rr) = false := by simp
  have HA0 : Hid (Kept (fun _ => False) w6 w6 ∧ ∃ vs Ys gs ns, vs.length = 0 ∧ gs.length = 0 ∧ APx w6.heap.size w6 (.slice none 0 0) (.slice none 0 0) vs Ys gs ns ∧ (∀ Y ∈ Ys, Y.length ≤ 100) ∧ ∀ n ∈ ns, n ≤ 100) := Lib.hid ⟨Kept.refl _ _, [], [], [], [], rfl, rfl, APx.start _ _, by simp, by simp⟩
  have HFA : Hid (fa = none → nodes.length + 20 = 0) := Lib.hid fun e => by
    subst e
    obtain ⟨a, c, h, _, _, h2⟩ := F6.out.shape
    simp only [Value.slice.injEq] at h
    exact (h2 h.1.symm).1
  clear FH6 PH6
  go_wp2_with fail
  go_loopw [9, 10, 15] (fun lv rv y wr => ∃ k : Nat, k ≤ 2 ∧ y = .int .i64 k ∧ ∃ la ln lc ra rc, lv = .slice la ln lc ∧ rv = .slice ra k rc ∧ ln ≤ 101 * k ∧
      Hid (Kept (fun _ => False) w6 wr ∧ ∃ vs Ys gs ns, vs.length = ln ∧ gs.length = k ∧ APx w6.heap.size wr lv rv vs Ys gs ns ∧ (∀ Y ∈ Ys, Y.length ≤ 100) ∧ ∀ n ∈ ns, n ≤ 100)) (fun _ _ y _ => 2 - (intOf y).toNat)
  case atStart => exact ⟨0, by omega, rfl, none, 0, 0, none, 0, rfl, rfl, by omega, HA0⟩
  case round =>
    clear HA0
    obtain ⟨k, hk, rfl, la, ln, lc, ra, rc, rfl, rfl, hln, hH⟩ := hrel
    obtain ⟨hK, vs, Ys, gs, ns, rfl, rfl, hA, hY, hN⟩ := hH.out
    by_cases hlt : gs.length < 2
    · obtain ⟨w0, rfl⟩ : ∃ x, x = wr := ⟨wr, rfl⟩
      have HK := Lib.hid hK
      have HA := Lib.hid hA
      have HYN := Lib.hid (And.intro hY hN)
      have hkk : (gs.length : Int) < 2 := by omega
      clear hH hK hA hY hN
      have HWD : Hid (Kept (fun _ => False) w6 w0.drew) := Lib.hid (HK.out.drewN 1)
      go_wp2_with fail
      go_region_with (
        (go_at_call 15
         refine (HCG.out _ HWD.out).mono ?_
         rintro e wg ⟨gv, FG, rfl, lg, kg, ng⟩
         have KWG : Hid (Kept (fun _ => False) w0 wg) := Lib.hid (((Kept.refl (fun _ => False) w0).drewN 1).trans' kg (fun _ _ h => h))
         have LG := Lib.hid lg
         have NG : Hid (∀ b, FG b → w0.heap.size ≤ b) := Lib.hid ng
         clear lg kg ng))
      obtain ⟨vg, g1, g2, gx, gF⟩ := LG.out
      obtain ⟨ga, gc, rfl, _, _, _⟩ := g1.shape
      have G1 := Lib.hid g1
      have G2 := Lib.hid g2
      have hvg : vg.length ≤ 100 := by rw [g2.len]; exact HGL.out.1
      have NG1 : Hid (∀ b, (Value.slice ga vg.length gc).ownBlock = some b → w0.heap.size ≤ b) := Lib.hid fun b hb => NG.out b ((gF b).2 (.inl hb))
      have NG2 : Hid (∀ v ∈ vg, ∀ b, v.ownBlock = some b → w0.heap.size ≤ b) := Lib.hid fun v hv b hb => NG.out b ((gF b).2 (.inr ⟨v, hv, hb⟩))
      have KG6 : Hid (Kept (fun _ => False) w6 wg) := Lib.hid (HK.out.trans' KWG.out (fun _ _ h => h))
      have HWG : Hid (Kept (fun _ => False) w6 wg.drew) := Lib.hid (KG6.out.drewN 1)
      clear g1 g2 gx gF HWD
      go_wp2_with fail
      go_region_with (
        (go_at_call 10
         refine (HCR.out _ HWG.out).mono ?_
         rintro e wx ⟨xv, rfl, hx⟩
         have KGX : Hid (Kept (fun _ => False) wg wx) := Lib.hid (((Kept.refl (fun _ => False) wg).drewN 1).trans' hx.2.1 (fun _ _ h => h))
         have X1 := Lib.hid hx.1
         have NX : Hid (∀ b, xv.ownBlock = some b → wg.heap.size ≤ b) := Lib.hid hx.2.2
         clear hx))
      obtain ⟨xa, xc, rfl, _, _, _⟩ := X1.out.shape
      have KX6 : Hid (Kept (fun _ => False) w6 wx) := Lib.hid (KG6.out.trans' KGX.out (fun _ _ h => h))
      have HSM := Lib.hid (same5 (RdLs.of_ls (LG.out.frame KGX.out (fun _ _ => id))) (RdLs.of_ls (LW6.out.frame KX6.out (fun _ _ => id))))
      go_wp2_with fail
      refine HSM.out.mono ?_
      rintro e wc1 ⟨rfl, m1, hm1⟩
      have KX1 : Hid (Kept (fun _ => False) wx wc1) := Lib.hid (by rw [hm1]; exact (Kept.refl _ wx).drewN m1)
      have HSI : Hid (Calls Try.prog 17 #[.slice xa R.length xc, .slice ya R.length yc] wc1 fun e w' => e = .returned (.bool true) ∧ ∃ m, w' = wc1.drewN m) := Lib.hid (by
        have := sameQI _ _ _ _ wc1 ((X1.out.frame KX1.out (fun _ _ => id)).rd) ((OY.out.frame (KX6.out.trans' KX1.out (fun _ _ h => h)) (fun _ _ => id)).rd)
        rw [decide_eq_true rfl] at this
        exact this)
      clear hm1 HSM
      go_wp2_with fail
      refine HSI.out.mono ?_
      rintro e wc2 ⟨rfl, m2, hm2⟩
      have KX2 : Hid (Kept (fun _ => False) wx wc2) := Lib.hid (by rw [hm2]; exact KX1.out.drewN m2)
      clear hm2 HSI KX1
      go_wp2_with fail
      refine (kept_any _ _ nodes wc2 (F6.out.frame (KX6.out.trans' KX2.out (fun _ _ h => h)) (fun _ _ => id)).rd (HN6.out.frame (KX6.out.trans' KX2.out (fun _ _ h => h)) (fun _ _ => id)) (by omega)).mono ?_
      rintro e wc3 ⟨rfl, k3⟩
      have KX3 : Hid (Kept (fun _ => False) wx wc3) := Lib.hid (KX2.out.trans' k3 (fun _ _ h => h))
      have K63 : Hid (Kept (fun _ => False) w6 wc3) := Lib.hid (KX6.out.trans' KX3.out (fun _ _ h => h))
      clear k3 KX2
      go_wp2_with fail
      go_loopw [20] (fun y2 wq => ∃ i : Nat, i ≤ uses.length ∧ y2 = .int .i64 i ∧ Hid (Kept (fun _ => False) wc3 wq)) (fun y2 _ => uses.length - (intOf y2).toNat)
      case atStart => exact ⟨0, Nat.zero_le _, rfl, Lib.hid (Kept.refl _ _)⟩
      case round =>
        obtain ⟨i, hi, rfl, hQ⟩ := hrel
        by_cases hli : i < uses.length
        · cases ua with
          | none => exact absurd (U3.out rfl).1 (by omega)
          | some ad =>
            have hii : (i : Int) < (uses.length : Int) := by omega
            have K6q : Kept (fun _ => False) w6 wr := K63.out.trans' hQ.out (fun _ _ h => h)
            obtain ⟨p0, p1⟩ := rdPrI (HU6.out.frame K6q (fun _ _ => id)) hli
            obtain ⟨q0, q1⟩ := HPC.out wr K6q i (by simp; omega)
            rw [List.getElem_append_left hli] at q0 q1
            have HKD : Hid (∀ n, Kept (fun _ => False) wc3 (wr.drewN n)) := Lib.hid fun n => hQ.out.drewN n
            generalize uses[i] = u at p0 p1 q0 q1
            obtain ⟨va, vb⟩ := u
            simp only [encI] at p0 p1 q0 q1
            have hneq := fun w => run_neq_pr w va vb
            have hi2 : (i : Int) < ((uses.length + 1 : Nat) : Int) := by omega
            clear hQ K6q hli
            go_wp2_with fail
            go_quiet (fail)
            go_wp2
            go_roundw
            case rel => exact ⟨i + 1, by omega, by go_num, Lib.hid (HKD.out nq)⟩
            case measure => simp [intOf]; omega
        · obtain rfl : i = uses.length := by omega
          have hii : ¬ (uses.length : Int) < (uses.length : Int) := by omega
          have K6q : Hid (Kept (fun _ => False) w6 wr) := Lib.hid (K63.out.trans' hQ.out (fun _ _ h => h))
          have KXq : Hid (Kept (fun _ => False) wx wr) := Lib.hid (KX3.out.trans' hQ.out (fun _ _ h => h))
          obtain ⟨q0, q1⟩ := HPC.out wr K6q.out uses.length (by simp)
          have hlast : (uses ++ [((-7 : Int), (-8 : Int))])[uses.length]'(by simp) = (-7, -8) := by simp
          rw [hlast] at q0 q1
          simp only [encI] at q0 q1
          have hneq := fun w => run_neq_pr w (-7) (-8)
          have hi2 : (uses.length : Int) < ((uses.length + 1 : Nat) : Int) := by omega
          have K0q : Hid (Kept (fun _ => False) w0 wr) := Lib.hid ((KWG.out.trans' KGX.out (fun _ _ h => h)).trans' KXq.out (fun _ _ h => h))
          have A5 := Lib.hid (HA.out.frame K0q.out)
          have G5 := Lib.hid (G1.out.frame (KGX.out.trans' KXq.out (fun _ _ h => h)) (fun _ _ => id))
          have GVL : Hid (∀ b, (Value.slice ga vg.length gc).ownBlock = some b → (Value.slice la vs.length lc).ownBlock ≠ some b) := Lib.hid fun b hb hl => by
            have := NG1.out b hb
            have := HA.out.lst.lt hl
            omega
          have OC := Lib.hid G2.out.cells
          have HF1 : Hid (Fits (vs.length + 1) 24) := Lib.hid (fits_of (by omega) (by decide))
          have HF2 : Hid (Fits (vs.length + 1 + vg.length) 24) := Lib.hid (fits_of (by omega) (by decide))
          have HF3 : Hid (Fits (gs.length + 1) 24) := Lib.hid (fits_of (by omega) (by decide))
          clear hQ hlast hli hi
          go_wp2_with (first
            | (at_builtin
               refine wpList_append slRows (v := .slice la vs.length lc) (vx := .slice (some ⟨wr.heap.size, 0, none⟩) 1 1) (n := vs.length) (news := [.slice xa R.length xc]) (m := 1) rfl _ _ rfl rfl rfl (A5.out.lst.alloc _) (Own.rd (Own.fresh (n := 1) (by rfl) (by decide))) (by simp [Value.oneCell']) HF1.out ?_
               intro v6 wa6 o6 k6 b6 _
               obtain ⟨a6, c6, rfl, _, _, _⟩ := o6.shape
               have GR6 := Lib.hid (apx_g6 A5.out G5.out GVL.out k6))
            | (at_builtin
               refine wpList_append slRows (v := .slice a6 (vs.length + 1) c6) (vx := .slice ga vg.length gc) (n := vs.length + 1) (m := vg.length) (news := vg) rfl _ _ rfl rfl rfl o6 GR6.out.1.rd OC.out HF2.out ?_
               intro v7 wa7 o7 k7 b7 _
               obtain ⟨a7, c7, rfl, _, _, _⟩ := o7.shape
               have R7 := Lib.hid (apx_r7 GR6.out.2 o6 k7))
            | (at_builtin
               refine wpList_append slRows3 (v := .slice ra gs.length rc) (vx := .slice (some ⟨wa7.heap.size, 0, none⟩) 1 1) (n := gs.length) (news := [.slice ga vg.length gc]) (m := 1) rfl _ _ rfl rfl rfl (R7.out.alloc _) (Own.rd (Own.fresh (n := 1) (by rfl) (by decide))) (by simp [Value.oneCell']) HF3.out ?_
               intro v8 wa8 o8 k8 b8 _
               obtain ⟨a8, c8, rfl, _, _, _⟩ := o8.shape))
          have Q : Hid (Kept (fun _ => False) w6 wa8 ∧ ∃ vs' Ys' gs' ns', vs'.length = vs.length + 1 + vg.length ∧ gs'.length = gs.length + 1 ∧ APx w6.heap.size wa8 (.slice a7 (vs.length + 1 + vg.length) c7) (.slice a8 (gs.length + 1) c8) vs' Ys' gs' ns' ∧ (∀ Y ∈ Ys', Y.length ≤ 100) ∧ ∀ n ∈ ns', n ≤ 100) := Lib.hid (by
            have hr := HA.out.round HK.out.size KWG.out G1.out G2.out NG1.out NG2.out KGX.out X1.out NX.out KXq.out k6 o6 b6 k7 o7 b7 k8 o8 b8
            have s1 := K6q.out.size
            have s2 := k6.size
            have s3 := k7.size
            have hl6 : ∀ b, (Value.slice a6 (vs.length + 1) c6).ownBlock = some b → w6.heap.size ≤ b := fun b hb => by
              rcases b6 b hb with h | h
              · exact HA.out.bl b h
              · simp at h; omega
            refine ⟨?_, vs ++ [.slice xa R.length xc] ++ vg, Ys ++ [R] ++ G, gs ++ [.slice ga vg.length gc], ns ++ [vg.length], by simp only [List.length_append, List.length_singleton], by simp, hr, fun Y hY => ?_, fun n hn => ?_⟩
            · refine ((((K6q.out.alloc _).trans' k6 (fun b hb h => ?_)).trans' k7 (fun b hb h => ?_)).alloc _).trans' k8 (fun b hb h => ?_)
              · have := HA.out.bl b h; omega
              · have := hl6 b h; omega
              · have := HA.out.br b h; omega
            · rcases List.mem_append.1 hY with hY | hY
              · rcases List.mem_append.1 hY with hY | hY
                · exact HYN.out.1 Y hY
                · simp only [List.mem_singleton] at hY
                  rw [hY]; exact HRL.out
              · exact HGL.out.2 Y hY
            · rcases List.mem_append.1 hn with hn | hn
              · exact HYN.out.2 n hn
              · simp only [List.mem_singleton] at hn
                omega)
          clear o6 k6 b6 o7 k7 b7 o8 k8 b8 q0 q1
          go_roundw
          case rel => exact ⟨gs.length + 1, by omega, by go_num, a7, vs.length + 1 + vg.length, c7, a8, c8, rfl, rfl, by omega, Q⟩
          case measure => simp [intOf]; omega
    · have hkk : ¬ (gs.length : Int) < 2 := by omega
      have F9 := Lib.hid (F6.out.frame hK (fun _ _ => id))
      have HA := Lib.hid hA
      have HK := Lib.hid hK
      have HYN := Lib.hid (And.intro hY hN)
      have HF1 : Hid (Fits (vs.length + 1) 24) := Lib.hid (fits_of (by omega) (by decide))
      clear hH hK hA hY hN
      go_wp2_with (first
        | (at_builtin
           refine wpList_append slRows (v := .slice la vs.length lc) (vx := .slice (some ⟨wr.heap.size, 0, none⟩) 1 1) (n := vs.length) (news := [.slice fa (nodes.length + 20) fc]) (m := 1) rfl _ _ rfl rfl rfl (HA.out.lst.alloc _) (Own.rd (Own.fresh (n := 1) (by rfl) (by decide))) (by simp [Value.oneCell']) HF1.out ?_
           intro v9 w9 o9 k9 b9 _
           obtain ⟨a9, c9, rfl, _, _, _⟩ := o9.shape))
      obtain ⟨Z, hZ⟩ : ∃ Z, Z = nodes ++ tail20 20 := ⟨_, rfl⟩
      have hZl : Z.length = nodes.length + 20 := by rw [hZ, List.length_append, tail20_length]
      have V : VsIs 3 encI wr (vs ++ [.slice fa (nodes.length + 20) fc]) (Ys ++ [Z]) := HA.out.vis.append (VsIs.one (by rw [hZl, hZ]; exact F9.out)) (fun v hv u hu b hb hb' => by
        simp only [List.mem_singleton] at hu
        subst hu
        have := HA.out.bv v hv b hb
        have := F6.out.lt hb'
        omega)
      have LA := HA.out.lst.alloc (.cells #[.slice fa (nodes.length + 20) fc] 22)
      have VA : VsIs 3 encI (wr.alloc (.cells #[.slice fa (nodes.length + 20) fc] 22)) (vs ++ [.slice fa (nodes.length + 20) fc]) (Ys ++ [Z]) := V.frame ((Kept.refl (fun _ => False) wr).alloc _) (fun _ _ _ _ => id)
      have V9 : VsIs 3 encI w9 (vs ++ [.slice fa (nodes.length + 20) fc]) (Ys ++ [Z]) := VA.frame k9 (VA.ne LA (by decide))
      have R9 : Own w9 29 1 (.slice ra gs.length rc) gs.length gs := (HA.out.row.alloc _).frame k9 (own_ne HA.out.row HA.out.lst (by decide))
      have G9 : Rows0R w9 gs ns := (HA.out.grw.frame ((Kept.refl (fun _ => False) wr).alloc _) (fun _ _ _ _ => id)).frame k9 HA.out.gl
      have hln1 : (vs ++ [Value.slice fa (nodes.length + 20) fc]).length = vs.length + 1 := by simp
      have hYl : Ys.length = vs.length := HA.out.vis.len.symm
      have hY9 : ∀ n ∈ (Ys ++ [Z]).map List.length, n ≤ 200 := fun n hn => by
        obtain ⟨Y, hY, rfl⟩ := List.mem_map.1 hn
        rcases List.mem_append.1 hY with hY | hY
        · have := HYN.out.1 Y hY; omega
        · simp only [List.mem_singleton] at hY
          subst hY
          omega
      have o9' : Own w9 22 1 (.slice a9 (vs.length + 1) c9) (vs ++ [Value.slice fa (nodes.length + 20) fc]).length (vs ++ [Value.slice fa (nodes.length + 20) fc]) := by rw [hln1]; exact o9
      have HIA := Lib.hid (intsApart w9 (.slice a9 (vs.length + 1) c9) (vs ++ [.slice fa (nodes.length + 20) fc]) ((Ys ++ [Z]).map List.length) o9' V9.rows0 (fun i hi b hb => V9.ne o9' (by decide) _ (List.getElem_mem hi) b hb) (by rw [hln1]; omega)
        (fun i hi => Nat.le_trans (hY9 _ (List.getElem_mem hi)) (by decide)) (Nat.le_trans (sum_le_mul hY9) (by rw [List.length_map, List.length_append, hYl, List.length_singleton]; omega)))
      have HB9 : Hid (Below w.heap.size w w9) := Lib.hid (by
        have b0 := below_step HB1.out (Nat.le_refl _) (K6.out.trans' HK.out (fun _ _ h => h)) (fun _ h => h.elim)
        have b1 := b0.alloc b0.size (.cells #[.slice fa (nodes.length + 20) fc] 22)
        refine below_step b1 (Nat.le_refl _) k9 (fun b hb => ?_)
        have := HA.out.bl b hb
        have := HB1.out.size
        have := K6.out.size
        omega)
      have HV9 := Lib.hid V9
      have HR9 := Lib.hid R9
      have HG9 := Lib.hid G9
      clear V LA VA V9 R9 G9 o9 o9' k9 b9 hY9 hZ hZl
      refine HIA.out.mono ?_
      rintro e wa ⟨rfl, ka⟩
      have RA : Own wa 29 1 (.slice ra gs.length rc) gs.length gs := HR9.out.frame ka (fun b hb ⟨i, hi, hv⟩ => HV9.out.ne HR9.out (by decide) _ (List.getElem_mem hi) b hv hb)
      have GA : Rows0R wa gs ns := HG9.out.frame ka (fun g hg b hb ⟨i, hi, hv⟩ => by
        obtain ⟨us, hus⟩ := HG9.out.own_of hg
        exact HV9.out.ne hus (by decide) _ (List.getElem_mem hi) b hv hb)
      have HBA : Hid (Below w.heap.size w wa) := Lib.hid (below_step HB9.out (Nat.le_refl _) ka (fun b ⟨i, hi, hv⟩ => by
        have s1 := HB1.out.size
        have s2 := K6.out.size
        rcases List.mem_append.1 (List.getElem_mem hi) with hm | hm
        · have := HA.out.bv _ hm b hv; omega
        · simp only [List.mem_singleton] at hm
          rw [hm] at hv
          have := NF.out b hv; omega))
      have hnl : ns.length = gs.length := HA.out.grw.len.symm
      have HRA := Lib.hid (rowsApart wa (.slice ra gs.length rc) gs ns RA GA (fun i hi b hb => GA.ne RA (by decide) _ (List.getElem_mem hi) b hb) (by omega) (fun i hi => Nat.le_trans (HYN.out.2 _ (List.getElem_mem hi)) (by decide)) (Nat.le_trans (sum_le_mul HYN.out.2) (by rw [hnl]; omega)))
      clear RA GA ka HIA
      go_wp2_with fail
      refine HRA.out.mono ?_
      rintro e wb ⟨rfl, kb⟩
      have HBB : Hid (Below w.heap.size w wb) := Lib.hid (below_step HBA.out (Nat.le_refl _) kb (fun b ⟨i, hi, hv⟩ => by
        have s1 := HB1.out.size
        have s2 := K6.out.size
        have := HA.out.bg _ (List.getElem_mem hi) b hv
        omega))
      clear kb HRA
      go_wp2
      go_ret
      exact ⟨rfl, HBB.out⟩

set_option maxRecDepth 100000 in
theorem orderApart_calls : LawCalls Try.prog 4 Try.f4 := by
  intro H enc W args ds ps hval hA hsz
  rw [Try.params4] at hA hval hsz
  obtain ⟨v0, v1, v2, d0, d1, d2, p0, p1, p2, rfl, rfl, _, h0, h1, h2⟩ := trodAll_three hA
  obtain ⟨base0, hok0⟩ := hval 0 _ v0 rfl rfl
  obtain ⟨base1, hok1⟩ := hval 1 _ v1 rfl rfl
  obtain ⟨base2, hok2⟩ := hval 2 _ v2 rfl rfl
  obtain ⟨xs, hx, _, _⟩ := open_ints_arg hok0 h0
  obtain ⟨rows, hr, _, _, _⟩ := open_arrays_arg (m0 := 2) Try.underlying23 Try.underlying31 Try.underlying3 (by kernel_rfl) (by kernel_rfl) hok1 h1
  obtain ⟨k, rfl, _, _, _⟩ := open_int Try.underlying3 hok2 h2
  exact orderApart_walk v0 v1 xs (rows.map prOf) k W hx (rdPairs hr)

end Go.Proofs.Ytncloielmfplpaa
