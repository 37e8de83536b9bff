/- The walk of OrderTexts. -/
import Derived.Test.YtncloielmfplpaaRefG5
import Derived.Test.YtncloielmfplpaaRefR5
import Derived.Test.YtncloielmfplpaaSameS
import Derived.Test.YtncloielmfplpaaTextsS
import Derived.Test.YtncloielmfplpaaTexts5
import Derived.Test.YtncloielmfplpaaReachAS
import Derived.Test.YtncloielmfplpaaWakes5
import Derived.Deep.RegionWith
namespace Go.Proofs.Ytncloielmfplpaa
open Go.ChangeShapes Go.WideShapes Go.ChangeAt Go.RowKit
set_option linter.unusedVariables false
set_option linter.unusedSimpArgs false

theorem gOut_mem {nodes : List Int} {uses : List (Int × Int)} : ∀ Y ∈ gOut nodes uses, (∀ y ∈ Y, y ∈ nodes) ∧ Y.length ≤ nodes.length := by
  intro Y hY
  unfold gOut at hY
  split at hY
  · obtain ⟨o, _, rfl⟩ := List.mem_map.1 hY
    refine ⟨fun y hy => ?_, pick_le _ _⟩
    obtain ⟨i, hi, _, rfl⟩ := mem_pick.1 hy
    exact List.getElem_mem hi
  · cases hY

theorem rOut_mem {nodes : List Int} {uses : List (Int × Int)} {x : Int} : ∀ y ∈ rOut nodes uses x, y ∈ nodes := by
  intro y hy
  unfold rOut at hy
  split at hy
  · obtain ⟨i, hi, _, rfl⟩ := mem_pick.1 hy
    exact List.getElem_mem hi
  · cases hy

set_option maxRecDepth 100000 in
set_option maxHeartbeats 8000000 in
theorem orderTexts_walk (nv uv : Value) (nodes : List Int) (uses : List (Int × Int)) (x : Int) (w : World) (hn : Rd w 1 nv nodes.length (cellsOf encI nodes)) (hu : Rd w 2 uv uses.length (cellsOf encPrI uses)) (hnr : ∀ y ∈ nodes, InR y) (hur : ∀ u ∈ uses, InR2 u) (hxr : InR x) :
    Calls Try.prog 6 #[nv, uv, .int .i64 x] w fun e w' => e = .returned (.bool true) ∧ Below w.heap.size w w' := by
  obtain ⟨na, nc, rfl, n1, n2, n3⟩ := hn.2
  obtain ⟨ua, uc, rfl, u1, u2, u3⟩ := hu.2
  have HN := Lib.hid hn
  have HU := Lib.hid hu
  have HNR := Lib.hid hnr
  have HUR := Lib.hid hur
  have HXR := Lib.hid hxr
  unfold maxLen at n2 u2
  clear hn hu n3 u3 hnr hur hxr
  by_cases hf : ¬ (nodes.length ≤ 100 ∧ uses.length ≤ 1000)
  · go_enter Try.func6, Try.ntmps6
    go_wp2_with fail
    refine (wakes5 w).mono ?_
    rintro e w1 ⟨rfl, hb1⟩
    go_wp2_with fail
    refine (fewN (w := w1) (na := na) (nc := nc) (ua := ua) (uc := uc) hf).mono ?_
    rintro e w2 ⟨rfl, rfl⟩
    go_wp2
    go_ret
    exact ⟨rfl, hb1⟩
  have hf1 : nodes.length ≤ 100 := by omega
  have hf2 : uses.length ≤ 1000 := by omega
  clear hf
  go_enter Try.func6, Try.ntmps6
  go_wp2_with fail
  refine (wakes5 w).mono ?_
  rintro e w1 ⟨rfl, hb1⟩
  have HB1 := Lib.hid hb1
  have HN1 := Lib.hid (HN.out.later hb1)
  have HU1 := Lib.hid (HU.out.later hb1)
  clear hb1
  have HTN : Hid (∀ wx, Kept (fun _ => False) w1 wx → Calls Try.prog 22 #[.slice na nodes.length nc] wx fun e w' => ∃ v', e = .returned v' ∧ Fresh wx w' 9 1 v' (nodes.map textB).length (cellsOf encS (nodes.map textB))) := Lib.hid fun wx hk => by
    rw [List.length_map]
    exact textsS _ _ wx (HN1.out.frame hk (fun _ _ => id)) HNR.out (by omega)
  have HTU : Hid (∀ wx, Kept (fun _ => False) w1 wx → Calls Try.prog 23 #[.slice ua uses.length uc] wx fun e w' => ∃ v', e = .returned v' ∧ Fresh wx w' 52 2 v' (uses.map (both5 textB)).length (cellsOf encPrS (uses.map (both5 textB)))) := Lib.hid fun wx hk => by
    rw [List.length_map]
    exact texts5 (HU1.out.frame hk (fun _ _ => id)) HUR.out hf2
  have HGM : Hid (∀ Y ∈ gOut nodes uses, (∀ y ∈ Y, InR y) ∧ Y.length ≤ 100) := Lib.hid fun Y hY => ⟨fun y hy => HNR.out y ((gOut_mem Y hY).1 y hy), by have := (gOut_mem Y hY).2; omega⟩
  have HRM : Hid (∀ y ∈ rOut nodes uses x, InR y) := Lib.hid fun y hy => HNR.out y (rOut_mem y hy)
  have HRL : Hid ((rOut nodes uses x).length ≤ 100) := Lib.hid (by have := rOut_le (nodes := nodes) (uses := uses) (x := x); omega)
  have HGR : Hid (∀ wx nv uv, Rd wx 1 nv (nodes.map textB).length (cellsOf encS (nodes.map textB)) → Rd wx 2 uv (uses.map (both5 textB)).length (cellsOf encPrS (uses.map (both5 textB))) →
      Calls Try.prog 21 #[nv, uv] wx fun e w' => ∃ v FO, e = .returned (.tuple #[v, .int .i64 (errOf nodes uses)]) ∧ LsXS w' v FO ((gOut nodes uses).map (List.map textB)) ∧ Kept (fun _ => False) wx w') := Lib.hid fun wx nv uv h1 h2 => by
    have := groupsS (w := wx) h1 h2 (by rw [List.length_map]; exact hf1) (by rw [List.length_map]; exact hf2)
    rw [errOf_map (fun _ _ => textB_inj), gOut_map (fun _ _ => textB_inj)] at this
    exact this.mono fun e w' ⟨v, FO, h3, h4, h5, _⟩ => ⟨v, FO, h3, h4, h5⟩
  have HRE : Hid (∀ wx nv uv, Rd wx 1 nv (nodes.map textB).length (cellsOf encS (nodes.map textB)) → Rd wx 2 uv (uses.map (both5 textB)).length (cellsOf encPrS (uses.map (both5 textB))) →
      Calls Try.prog 24 #[nv, uv, .string ⟨(textB x).toArray⟩] wx fun e w' => ∃ v, e = .returned (.tuple #[v, .int .i64 (rErr nodes uses x)]) ∧ Own w' 9 1 v ((rOut nodes uses x).map textB).length (cellsOf encS ((rOut nodes uses x).map textB)) ∧ Kept (fun _ => False) wx w') := Lib.hid fun wx nv uv h1 h2 => by
    have := reachAllS (w := wx) h1 h2 (by rw [List.length_map]; exact hf1) (by rw [List.length_map]; exact hf2) (textB x)
    rw [rErr_map (fun _ _ => textB_inj), rOut_map (fun _ _ => textB_inj)] at this
    exact this.mono fun e w' ⟨v, h3, h4, h5, _⟩ => ⟨v, h3, h4, h5⟩
  have HRG := Lib.hid (fun wx (hk : Kept (fun _ => False) w1 wx) => refGroups5 (HN1.out.frame hk (fun _ _ => id)) (HU1.out.frame hk (fun _ _ => id)) hf1 hf2)
  have HRR := Lib.hid (fun wx (hk : Kept (fun _ => False) w1 wx) => refReach5 (HN1.out.frame hk (fun _ _ => id)) (HU1.out.frame hk (fun _ _ => id)) hf1 hf2 x)
  generalize gOut nodes uses = G at HGM HGR HRG
  generalize rOut nodes uses x = R at HRM HRL HRE HRR
  generalize errOf nodes uses = er at HGR HRG
  generalize rErr nodes uses x = rr at HRE HRR
  have herr : (er != er) = false := by simp
  have hrrr : (rr != rr) = false := by simp
  have hgl : ((G.length : Int) != (G.length : Int)) = false := by simp
  go_wp2_with fail
  refine (fewY (w := w1) (na := na) (nc := nc) (ua := ua) (uc := uc) hf1 hf2).mono ?_
  rintro e w2 ⟨rfl, rfl⟩
  go_wp2_with fail
  refine (HRG.out w1 (Kept.refl _ _)).mono ?_
  rintro e w2 ⟨wv, FW, rfl, lw, k2, _⟩
  have LW := Lib.hid lw
  have K2 := Lib.hid k2
  obtain ⟨wa, wc, rfl, hw1, hw2, _⟩ := lw.shape
  have hG63 : G.length ≤ 9223372036854775807 := by unfold maxLen at hw2; omega
  clear lw k2 HRG hw1 hw2
  go_wp2_with fail
  refine (HTN.out w2 K2.out).mono ?_
  rintro e w3 ⟨tn, rfl, f3⟩
  have F3 := Lib.hid f3.1
  have K3 := Lib.hid (K2.out.trans' f3.2.1 (fun _ _ h => h))
  have LW3 := Lib.hid (LW.out.frame f3.2.1 (fun _ _ => id))
  clear f3 LW
  go_wp2_with fail
  refine (HTU.out w3 K3.out).mono ?_
  rintro e w4 ⟨tu, rfl, f4⟩
  have F4 := Lib.hid f4.1
  have F34 := Lib.hid (F3.out.frame f4.2.1 (fun _ _ => id))
  have K4 := Lib.hid (K3.out.trans' f4.2.1 (fun _ _ h => h))
  have LW4 := Lib.hid (LW3.out.frame f4.2.1 (fun _ _ => id))
  clear f4 LW3 F3
  go_wp2_with fail
  refine (HGR.out w4 tn tu F34.out.rd F4.out.rd).mono ?_
  rintro e w5 ⟨gv, FG, rfl, lg, k5⟩
  have LG := Lib.hid lg
  have K5 := Lib.hid (K4.out.trans' k5 (fun _ _ h => h))
  have LW5 := Lib.hid (LW4.out.frame k5 (fun _ _ => id))
  obtain ⟨ga, gc, rfl, _, _, _⟩ := lg.shape
  rw [List.length_map] at LG ⊢
  clear lg k5 LW4 F34 F4 K4 K3 K2 HGR
  go_wp2_with fail
  refine (HRR.out w5 K5.out).mono ?_
  rintro e w6 ⟨yv, rfl, f6⟩
  have F6 := Lib.hid f6.1
  have K6 := Lib.hid (K5.out.trans' f6.2.1 (fun _ _ h => h))
  have LW6 := Lib.hid (LW5.out.frame f6.2.1 (fun _ _ => id))
  have LG6 := Lib.hid (LG.out.frame f6.2.1 (fun _ _ => id))
  obtain ⟨ya, yc, rfl, _, _, _⟩ := f6.1.shape
  clear f6 LW5 LG K5 HRR
  go_wp2_with fail
  refine (HTN.out w6 K6.out).mono ?_
  rintro e w7 ⟨tn2, rfl, f7⟩
  have T7 := Lib.hid f7.1
  have K67 := Lib.hid f7.2.1
  clear f7
  go_wp2_with fail
  refine (HTU.out w7 (K6.out.trans' K67.out (fun _ _ h => h))).mono ?_
  rintro e w8 ⟨tu2, rfl, f8⟩
  have U8 := Lib.hid f8.1
  have T8 := Lib.hid (T7.out.frame f8.2.1 (fun _ _ => id))
  have K68 := Lib.hid (K67.out.trans' f8.2.1 (fun _ _ h => h))
  clear f8 T7 K67
  go_wp2_with fail
  refine (text_text x w8 HXR.out.1 HXR.out.2).mono ?_
  rintro e w9 ⟨rfl, k9⟩
  have U9 := Lib.hid (U8.out.frame k9 (fun _ _ => id))
  have T9 := Lib.hid (T8.out.frame k9 (fun _ _ => id))
  have K69 := Lib.hid (K68.out.trans' k9 (fun _ _ h => h))
  clear k9 U8 T8 K68 HTN HTU
  go_wp2_with fail
  refine (HRE.out w9 tn2 tu2 T9.out.rd U9.out.rd).mono ?_
  rintro e w10 ⟨xv, rfl, ox, k10⟩
  have KA := Lib.hid (K69.out.trans' k10 (fun _ _ h => h))
  have K10 := Lib.hid (K6.out.trans' KA.out (fun _ _ h => h))
  have OX := Lib.hid ox
  have FY := Lib.hid (F6.out.frame KA.out (fun _ _ => id))
  have LWA := Lib.hid (LW6.out.frame KA.out (fun _ _ => id))
  have LGA := Lib.hid (LG6.out.frame KA.out (fun _ _ => id))
  clear ox k10 U9 T9 K69 KA K6 F6 LW6 LG6 HRE
  have HTR : Hid (Calls Try.prog 22 #[.slice ya R.length yc] w10 fun e w' => ∃ v', e = .returned v' ∧ Fresh w10 w' 9 1 v' (R.map textB).length (cellsOf encS (R.map textB))) := Lib.hid (by
    rw [List.length_map]
    exact textsS _ _ w10 FY.out.rd HRM.out (by have := HRL.out; omega))
  go_wp2_with fail
  refine HTR.out.mono ?_
  rintro e w11 ⟨ty, rfl, f11⟩
  have hs := sameS xv ty (R.map textB) (R.map textB) w11 (OX.out.frame f11.2.1 (fun _ _ => id)).rd f11.1.rd
  rw [decide_eq_true rfl] at hs
  have HS := Lib.hid hs
  have K11 := Lib.hid f11.2.1
  clear hs f11
  go_wp2_with fail
  refine HS.out.mono ?_
  rintro e w12 ⟨rfl, k12⟩
  have K12 := Lib.hid (K11.out.trans' k12 (fun _ _ h => h))
  have HB12 := Lib.hid (below_step HB1.out (Nat.le_refl _) (K10.out.trans' K12.out (fun _ _ h => h)) (fun _ h => h.elim))
  have HROW : Hid (∀ wx, Kept (fun _ => False) w12 wx → ∀ i (hi : i < G.length), ∃ g off v c g2 off2 v2 c2, ga = some ⟨g, off, none⟩ ∧ wx.cell? ⟨g, off + i, none⟩ = some (.slice v G[i].length c) ∧ Own wx 9 1 (.slice v G[i].length c) G[i].length (cellsOf encS (G[i].map textB)) ∧
      wa = some ⟨g2, off2, none⟩ ∧ wx.cell? ⟨g2, off2 + i, none⟩ = some (.slice v2 G[i].length c2) ∧ Own wx 3 1 (.slice v2 G[i].length c2) G[i].length (cellsOf encI G[i])) := Lib.hid fun wx hk i hi => by
    have hk2 := K12.out.trans' hk (fun _ _ h => h)
    obtain ⟨g, off, cap, v, hv, _, _, hc, _, ho, _⟩ := (LGA.out.frame hk2 (fun _ _ => id)).row (i := i) (by rw [List.length_map]; exact hi)
    obtain ⟨g2, off2, cap2, v2, hv2, _, _, hc2, _, ho2, _⟩ := (LWA.out.frame hk2 (fun _ _ => id)).row hi
    simp only [Value.slice.injEq] at hv hv2
    simp only [List.getElem_map, List.length_map] at ho
    obtain ⟨a, c, rfl, _⟩ := ho.shape
    obtain ⟨a2, c2, rfl, _⟩ := ho2.shape
    exact ⟨g, off, a, c, g2, off2, a2, c2, hv.1, hc, ho, hv2.1, hc2, ho2⟩
  clear k12 K12 K11 HS K10 OX FY LWA LGA HTR
  go_wp2_with fail
  go_loopw [15] (fun y wr => ∃ i : Nat, i ≤ G.length ∧ y = .int .i64 i ∧ Hid (Kept (fun _ => False) w12 wr)) (fun y _ => G.length - (intOf y).toNat)
  case atStart => exact ⟨0, Nat.zero_le _, rfl, Lib.hid (Kept.refl _ _)⟩
  case round =>
    obtain ⟨i, hi, rfl, hK⟩ := hrel
    by_cases hlt : i < G.length
    · have hii : (i : Int) < (G.length : Int) := by omega
      obtain ⟨g, off, v, c, g2, off2, v2, c2, rfl, c0, o0, rfl, c1, o1⟩ := HROW.out wr hK.out i hlt
      have hM := HGM.out _ (List.getElem_mem hlt)
      generalize G[i] = Y at c0 o0 c1 o1 hM
      obtain ⟨n, hn⟩ : ∃ n, n = Y.length := ⟨_, rfl⟩
      have HT : Hid (∀ wx, Kept (fun _ => False) wr wx → Calls Try.prog 22 #[.slice v2 n c2] wx fun e w' => ∃ v', e = .returned v' ∧ Fresh wx w' 9 1 v' n (cellsOf encS (Y.map textB))) := Lib.hid fun wx hk => by
        rw [hn]
        exact textsS _ _ wx (o1.frame hk (fun _ _ => id)).rd hM.1 (by omega)
      have HS : Hid (∀ wx v', Kept (fun _ => False) wr wx → Rd wx 1 v' n (cellsOf encS (Y.map textB)) → Calls Try.prog 26 #[.slice v n c, v'] wx fun e w' => e = .returned (.bool true) ∧ Kept (fun _ => False) wx w') := Lib.hid fun wx v' hk hr => by
        have hl : (Y.map textB).length = n := by rw [List.length_map, hn]
        have hs := sameS (.slice v n c) v' (Y.map textB) (Y.map textB) wx (by rw [hl, hn]; exact (o0.frame hk (fun _ _ => id)).rd) (by rw [hl]; exact hr)
        rw [decide_eq_true rfl] at hs
        exact hs
      rw [← hn] at c0 c1
      have HD : Hid (Kept (fun _ => False) wr wr.drew) := Lib.hid ((Kept.refl (fun _ => False) wr).drewN 1)
      have HK := Lib.hid hK.out
      have HLT := Lib.hid hlt
      clear o0 o1 hM hn hlt hK
      go_wp2_with fail
      go_region_with (first
        | (go_at_call 22
           refine (HT.out _ HD.out).mono ?_
           rintro e wx ⟨tv, rfl, hfr⟩
           have KX := Lib.hid (HD.out.trans' hfr.2.1 (fun _ _ h => h))
           have OT := Lib.hid hfr.1
           have c0' := KX.out.cell c0 id
           clear hfr)
        | (go_at_call 26
           refine (HS.out _ _ KX.out OT.out.rd).mono ?_
           rintro e wy ⟨rfl, ky⟩
           have KY := Lib.hid (KX.out.trans' ky (fun _ _ h => h))
           clear ky))
      all_goals
        have Q : Hid (Kept (fun _ => False) w12 wy) := Lib.hid (HK.out.trans' KY.out (fun _ _ h => h))
        clear c0 c1
        go_wp2
        go_roundw
        case rel => exact ⟨i + 1, by have := HLT.out; omega, by go_num, Q⟩
        case measure => have := HLT.out; simp [intOf]; omega
    · have HQ := Lib.hid (below_step HB12.out (Nat.le_refl _) hK.out (fun _ h => h.elim))
      have hii : ¬ (i : Int) < (G.length : Int) := by omega
      clear hK hlt
      go_wp2
      go_ret
      exact ⟨rfl, HQ.out⟩

set_option maxRecDepth 100000 in
theorem orderTexts_calls : LawCalls Try.prog 6 Try.f6 := by
  intro H enc W args ds ps hval hA hsz
  rw [Try.params6] at hA hval hsz
  obtain ⟨v0, v1, v2, d0, d1, d2, p0, p1, p2, rfl, rfl, _, h0, h1, h2⟩ := trodAll_three hA
  obtain ⟨base0, hok0⟩ := hval 0 _ v0 rfl rfl
  obtain ⟨base1, hok1⟩ := hval 1 _ v1 rfl rfl
  obtain ⟨base2, hok2⟩ := hval 2 _ v2 rfl rfl
  obtain ⟨xs, hx, hxr, _⟩ := open_ints_arg hok0 h0
  obtain ⟨rows, hr, hrr, _, _⟩ := open_arrays_arg (m0 := 2) Try.underlying23 Try.underlying31 Try.underlying3 (by kernel_rfl) (by kernel_rfl) hok1 h1
  obtain ⟨k, rfl, _, _, hk⟩ := open_int Try.underlying3 hok2 h2
  refine orderTexts_walk v0 v1 xs (rows.map prOf) k W hx (rdPairs hr) hxr (fun u hu => ?_) (inR_of_wf hk)
  obtain ⟨r, hr1, rfl⟩ := List.mem_map.1 hu
  obtain ⟨e, hin⟩ := hrr r hr1
  match r, e, hin with
  | [a, b], _, hin => exact ⟨hin a (by simp), hin b (by simp)⟩

end Go.Proofs.Ytncloielmfplpaa
