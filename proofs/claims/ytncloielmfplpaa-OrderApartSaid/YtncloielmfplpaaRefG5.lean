/- The reference of layer 5: Groups. -/
import Derived.Test.YtncloielmfplpaaRefD5
import Derived.Deep.LoopGhost
namespace Go.Proofs.Ytncloielmfplpaa
open Go.RowKit
set_option linter.unusedVariables false
set_option linter.unusedSimpArgs false

set_option maxRecDepth 100000 in
set_option maxHeartbeats 4000000 in
theorem refGroups5 {w : World} {nv uv : Value} {nodes : List Int} {uses : List (Int × Int)} (hn : Rd w 1 nv nodes.length (cellsOf encI nodes)) (hu : Rd w 2 uv uses.length (cellsOf encPrI uses)) (h1 : nodes.length ≤ 100) (h2 : uses.length ≤ 1000) :
    Calls Try.prog 13 #[nv, uv] w fun e w' => ∃ v FO, e = .returned (.tuple #[v, .int .i64 (errOf nodes uses)]) ∧ LsXI w' v FO (gOut nodes uses) ∧ Kept (fun _ => False) w w' ∧ ∀ b, FO b → w.heap.size ≤ b := by
  have HCK := Lib.hid (checks5 hn hu)
  have HLI : Hid (errOf nodes uses = 0 → Calls Try.prog 31 #[nv, uv] w fun e w' => ∃ v F, e = .returned v ∧ LsN w' v F (graphL nodes uses) ∧ Kept (fun _ => False) w w' ∧ ∀ b, F b → w.heap.size ≤ b) := Lib.hid (lists5 hn hu h1 h2)
  obtain ⟨na, nc, rfl, n1, n2, n3⟩ := hn.2
  have N3 := Lib.hid n3.1
  have HN := Lib.hid hn
  clear n3 hn hu
  have hn2 : nc ≤ 9223372036854775807 := by unfold maxLen at n2; omega
  rcases errOf_cases nodes uses with hE | hE
  · have HE := Lib.hid hE
    rw [hE] at HCK ⊢
    have HL0 := Lib.hid (HLI.out hE)
    have HGO : Hid (∀ O, leds (graphL nodes uses) nodes.length = O → gOut nodes uses = O.map fun o => pick (sm (graphL nodes uses) o) nodes) := Lib.hid fun O h => by
      unfold gOut
      rw [if_pos HE.out, h]
    have HGL : Hid ((graphL nodes uses).length = nodes.length ∧ ∀ x z, z ∈ nxt (graphL nodes uses) x → z < nodes.length) := Lib.hid ⟨graphL_length nodes uses, fun x z hz => graphL_lt (errOf_ok HE.out).2 hz⟩
    generalize graphL nodes uses = L at HGO HGL HL0
    clear hE HLI HE
    go_enter Try.func13, Try.ntmps13
    go_wp2_with fail
    refine HCK.out.mono ?_
    rintro e w1 ⟨rfl, rfl⟩
    go_wp2_with fail
    refine HL0.out.mono ?_
    rintro e w1 ⟨lv, F, rfl, hLs, hk1, _⟩
    have HLs := Lib.hid hLs
    have HK1 := Lib.hid hk1
    obtain ⟨la0, lc0, rfl, _, _, _⟩ := hLs.shape
    clear hLs hk1 HCK HL0
    have HA0 : Hid (∃ FV, LsB w1 (.slice none 0 0) FV (froms L nodes.length 0) ∧ Kept (fun _ => False) w1 w1 ∧ ∀ b, FV b → w1.heap.size ≤ b) := Lib.hid ⟨_, LsIs.nil _, Kept.refl _ _, fun _ h => h.elim⟩
    go_wp2_with fail
    go_loopw [8, 9] (fun fv y wr => ∃ k : Nat, k ≤ nodes.length ∧ y = .int .i64 k ∧ ∃ fa fc, fv = .slice fa k fc ∧ Hid (∃ FV, LsB wr fv FV (froms L nodes.length k) ∧ Kept (fun _ => False) w1 wr ∧ ∀ b, FV b → w1.heap.size ≤ b)) (fun _ y _ => nodes.length - (intOf y).toNat)
    case atStart => exact ⟨0, Nat.zero_le _, rfl, none, 0, rfl, HA0⟩
    case round =>
      clear HA0
      obtain ⟨k, hk, rfl, fa, fc, rfl, hH⟩ := hrel
      obtain ⟨FV, hL, hK, hF⟩ := hH.out
      by_cases hlt : k < nodes.length
      · have hki : (k : Int) < (nodes.length : Int) := by omega
        have HRC := Lib.hid (reached5 HGL.out.1 h1 HGL.out.2 hlt (HLs.out.frame hK (fun _ _ => id)))
        obtain ⟨vs, p1, p2, p3, p4⟩ := hL
        have hvl : vs.length = k := by have := p2.len; rwa [froms_length] at this
        have P1 := Lib.hid p1
        have P2 := Lib.hid (And.intro p2 (And.intro p3 p4))
        have HK := Lib.hid hK
        have HF := Lib.hid hF
        have HVL := Lib.hid hvl
        have HFT : Hid (Fits (vs.length + 1) 24) := Lib.hid (fits_of (by omega) (by decide))
        have hv2 : vs.length + 1 ≤ 9223372036854775807 := by omega
        clear hH hK hF p1 p2 p3 p4 hlt hvl
        go_wp2_with fail
        refine HRC.out.mono ?_
        rintro e w4 ⟨mv, rfl, om, km, nm⟩
        obtain ⟨ma, mc, rfl, m1, m2, m3⟩ := om.shape
        have OM := Lib.hid om
        have KM := Lib.hid km
        have NM := Lib.hid nm
        have HO4 := Lib.hid (P1.out.frame km (fun _ _ => id))
        clear om km nm m3
        go_wp2_with (first
          | (at_builtin
             refine wpList_append slBoolRows (v := .slice fa k fc) (vx := .slice (some ⟨w4.heap.size, 0, none⟩) 1 1) (n := vs.length) (news := [.slice ma nodes.length mc]) (m := 1) rfl _ _ rfl rfl rfl (HO4.out.alloc _) (Own.rd (Own.fresh (n := 1) (by rfl) (by decide))) (by simp [Value.oneCell']) HFT.out ?_
             intro v9 w9 ho9 hk9 hb9 _
             obtain ⟨a9, c9, rfl, _, _, _⟩ := ho9.shape))
        have Q : Hid (∃ FV, LsB w9 (.slice a9 (vs.length + 1) c9) FV (froms L nodes.length (k + 1)) ∧ Kept (fun _ => False) w1 w9 ∧ ∀ b, FV b → w1.heap.size ≤ b) := Lib.hid (by
          have hsz := HK.out.size
          have hs4 := KM.out.size
          have hLr : LsB wr (.slice fa k fc) FV (froms L nodes.length k) := ⟨vs, P1.out, P2.out.1, P2.out.2.1, P2.out.2.2⟩
          have KA : Kept (fun _ => False) wr (w4.alloc (.cells #[.slice ma nodes.length mc] 60)) := KM.out.alloc _
          have ho : Own (w4.alloc (.cells #[.slice ma nodes.length mc] 60)) 4 1 (.slice ma nodes.length mc) ((List.range nodes.length).map (rb L k)).length (cellsOf encBl ((List.range nodes.length).map (rb L k))) := by
            rw [← marks_encBl, List.length_map, List.length_range]
            exact OM.out.alloc _
          obtain ⟨FV', q1, q2⟩ := LsIs.snoc (P1.out.frame KA (fun _ _ => id)) (P2.out.1.frame KA (fun _ _ _ _ => id)) P2.out.2.1 P2.out.2.2 ho (fun b hb hf => by have := NM.out b hb; have := hLr.lt hf; omega) hk9 ho9 hb9
          refine ⟨FV', by rw [froms_succ]; exact q1, ((HK.out.trans' KM.out (fun _ _ h => h)).alloc _).trans' hk9 (fun i hi h => by have := HF.out i ((P2.out.2.2 i).2 (.inl h)); omega), fun b hb => ?_⟩
          rcases q2 b hb with h | h | h
          · exact HF.out b h
          · have := NM.out b h; omega
          · simp at h; omega)
        clear ho9 hk9 hb9
        rw [HVL.out] at Q ⊢
        go_roundw
        case rel => exact ⟨k + 1, by omega, by go_num, a9, c9, rfl, Q⟩
        case measure => simp [intOf]; omega
      · obtain rfl : k = nodes.length := by omega
        obtain ⟨w5, hr5, ho5, hk5, hs5⟩ := run_make_one slInt rfl wr nodes.length nodes.length (Nat.le_refl _) (by omega) (by unfold maxLen; omega)
        obtain ⟨w6, hr6, ho6, hk6, hs6⟩ := run_make_one slInt rfl w5 nodes.length nodes.length (Nat.le_refl _) (by omega) (by unfold maxLen; omega)
        replace hr5 := hr5 _ _ rfl rfl
        replace hr6 := hr6 _ _ rfl rfl
        rw [hs5] at hr6 ho6
        have hz : cellsOf encN ((List.range nodes.length).map fun _ => 0) = List.replicate nodes.length (.int .i64 0) := by
          rw [cellsOf_encN, List.map_map]
          simp [List.map_const', Function.comp_def]
        have hRG : RG L nodes.length w1 w6 (.slice fa nodes.length fc) FV wr.heap.size (fun _ => 0) (fun _ => 0) :=
          ⟨(hL.frame hk5 (fun _ _ => id)).frame hk6 (fun _ _ => id), by rw [hz]; exact ho5.frame hk6 (fun _ _ => id), by rw [hz]; exact ho6, fun b hb => hL.lt hb, hK.size, (hK.trans' hk5 (fun _ _ h => h)).trans' hk6 (fun _ _ h => h)⟩
        have HRG := Lib.hid hRG
        have HFV : Hid (∀ b, FV b → w1.heap.size ≤ b) := Lib.hid hF
        clear hH hL hK hF hRG ho5 ho6 hk5 hk6 hz hlt hk
        go_wp2_with fail
        generalize wr.heap.size = fb at HRG ⊢
        clear hr5 hr6 hs5 hs6
        -- firsts
        go_loopw [12] (fun y wr => ∃ i : Nat, i ≤ nodes.length ∧ y = .int .i64 i ∧ Hid (∃ ft, RG L nodes.length w1 wr (.slice fa nodes.length fc) FV fb ft (fun _ => 0) ∧ ∀ t, t < i → ft t = fo L t)) (fun y _ => nodes.length - (intOf y).toNat)
        case atStart => exact ⟨0, Nat.zero_le _, rfl, Lib.hid ⟨_, HRG.out, fun t h => absurd h (Nat.not_lt_zero _)⟩⟩
        case round =>
          clear HRG
          obtain ⟨i, hi, rfl, hH⟩ := hrel
          obtain ⟨ft, hR, hft⟩ := hH.out
          by_cases hlt : i < nodes.length
          · have hii : (i : Int) < (nodes.length : Int) := by omega
            obtain ⟨s0, s1⟩ := own_num hR.fst hlt
            have HI : Hid (∃ cur, RG L nodes.length w1 (wr.setCell ⟨fb, i, none⟩ (.int .i64 (i : Int))) (.slice fa nodes.length fc) FV fb (setN ft i cur) (fun _ => 0) ∧ i ≤ cur ∧ cur ≤ i ∧ Same (nxt L) i cur ∧ ∀ t, i ≤ t → t < cur → ¬ Same (nxt L) i t) := Lib.hid ⟨i, hR.setF hlt i, Nat.le_refl _, Nat.le_refl _, .refl _, fun t h1 h2 => by omega⟩
            have HFT := Lib.hid hft
            have HLT := Lib.hid hlt
            clear hH hR hft hlt
            go_wp2_with fail
            clear s0 s1
            go_loopw [13] (fun y wr => ∃ q : Nat, q ≤ i ∧ y = .int .i64 ((q : Int) - 1) ∧ Hid (∃ cur, RG L nodes.length w1 wr (.slice fa nodes.length fc) FV fb (setN ft i cur) (fun _ => 0) ∧ q ≤ cur ∧ cur ≤ i ∧ Same (nxt L) i cur ∧ ∀ t, q ≤ t → t < cur → ¬ Same (nxt L) i t)) (fun y _ => (intOf y + 1).toNat)
            case atStart => exact ⟨i, Nat.le_refl _, rfl, HI⟩
            case round =>
              clear HI
              obtain ⟨q, hq, rfl, hH⟩ := hrel
              obtain ⟨cur, hR, c1, c2, c3, c4⟩ := hH.out
              cases q with
              | zero =>
                have hcur := fo_of c3 c2 (fun t ht => c4 t (Nat.zero_le _) ht)
                subst hcur
                have Q : Hid (∃ ft, RG L nodes.length w1 wr (.slice fa nodes.length fc) FV fb ft (fun _ => 0) ∧ ∀ t, t < i + 1 → ft t = fo L t) := Lib.hid ⟨_, hR, fun t ht => by
                  unfold setN
                  split
                  · rename_i e; rw [e]
                  · exact HFT.out t (by omega)⟩
                clear hH hR c1 c2 c3 c4
                have e1 : ((0 : Nat) : Int) - 1 = -1 := by omega
                rw [e1]
                go_wp2
                go_roundw
                case rel => exact ⟨i + 1, by have := HLT.out; omega, by go_num, Q⟩
                case measure => have := HLT.out; simp [intOf]; omega
              | succ q =>
                have hqn : q < nodes.length := by have := HLT.out; omega
                obtain ⟨g, off, rg, ro, rc, rfl, k0, k1⟩ := froms_row hR.frm HLT.out
                obtain ⟨g', off', rg', ro', rc', hv, k0', k1'⟩ := froms_row hR.frm hqn
                simp only [Option.some.injEq, Addr.mk.injEq, and_true] at hv
                obtain ⟨rfl, rfl⟩ := hv
                have b0 := k1 q hqn
                have b1 := k1' i HLT.out
                obtain ⟨s0, s1⟩ := own_num hR.fst HLT.out
                rw [setN_at] at s0
                have hset := hR.setF HLT.out q
                have hss : setN (setN ft i cur) i q = setN ft i q := by
                  funext t
                  unfold setN
                  split <;> rfl
                rw [hss] at hset
                have hii : (i : Int) < (nodes.length : Int) := by have := HLT.out; omega
                have hqi : (q : Int) < (nodes.length : Int) := by omega
                have e1 : ((q + 1 : Nat) : Int) - 1 = (q : Int) := by omega
                have hsame : Same (nxt L) i q ↔ (rb L i q = true ∧ rb L q i = true) := by unfold Same; rw [rb_iff, rb_iff]
                have HS1 : Hid (rb L i q = true → rb L q i = true → ∃ cur, RG L nodes.length w1 (wr.setCell ⟨fb, i, none⟩ (.int .i64 (q : Int))) (.slice (some ⟨g, off, none⟩) nodes.length fc) FV fb (setN ft i cur) (fun _ => 0) ∧ q ≤ cur ∧ cur ≤ i ∧ Same (nxt L) i cur ∧ ∀ t, q ≤ t → t < cur → ¬ Same (nxt L) i t) := Lib.hid fun h3 h4 =>
                  ⟨q, hset, Nat.le_refl _, by omega, hsame.2 ⟨h3, h4⟩, fun t h1 h2 => by omega⟩
                have HS2 : Hid (¬ (rb L i q = true ∧ rb L q i = true) → ∃ cur, RG L nodes.length w1 wr (.slice (some ⟨g, off, none⟩) nodes.length fc) FV fb (setN ft i cur) (fun _ => 0) ∧ q ≤ cur ∧ cur ≤ i ∧ Same (nxt L) i cur ∧ ∀ t, q ≤ t → t < cur → ¬ Same (nxt L) i t) := Lib.hid fun h3 =>
                  ⟨cur, hR, by omega, c2, c3, fun t h1 h2 hs => by
                    rcases Nat.lt_or_ge q t with h4 | h4
                    · exact c4 t h4 h2 hs
                    · obtain rfl : t = q := by omega
                      exact h3 (hsame.1 hs)⟩
                rw [e1]
                clear hH hR c1 c2 c3 c4 k1 k1' hset hss hsame e1
                cases hb0 : rb L i q with
                | false =>
                  rw [hb0] at b0
                  have Q := Lib.hid (HS2.out (fun h => by rw [hb0] at h; cases h.1))
                  clear hb0
                  go_wp2
                  go_roundw
                  case rel => exact ⟨q, by omega, by go_num, Q⟩
                  case measure => simp [intOf]
                | true =>
                  cases hb1 : rb L q i with
                  | false =>
                    rw [hb0] at b0
                    rw [hb1] at b1
                    have Q := Lib.hid (HS2.out (fun h => by rw [hb1] at h; cases h.2))
                    clear hb0 hb1
                    go_wp2
                    go_roundw
                    case rel => exact ⟨q, by omega, by go_num, Q⟩
                    case measure => simp [intOf]
                  | true =>
                    have Q := Lib.hid (HS1.out hb0 hb1)
                    rw [hb0] at b0
                    rw [hb1] at b1
                    clear hb0 hb1
                    go_wp2
                    go_roundw
                    case rel => exact ⟨q, by omega, by go_num, Q⟩
                    case measure => simp [intOf]
          · have hRF : RG L nodes.length w1 wr (.slice fa nodes.length fc) FV fb (fo L) (fun _ => 0) := by
              have e : (List.range nodes.length).map ft = (List.range nodes.length).map (fo L) := List.map_congr_left fun t ht => hft t (by have := List.mem_range.1 ht; omega)
              exact ⟨hR.frm, by rw [← e]; exact hR.fst, hR.wts, hR.fl, hR.lo, hR.kept⟩
            have HR0 : Hid (∃ wt, RG L nodes.length w1 wr (.slice fa nodes.length fc) FV fb (fo L) wt ∧ ∀ x, x < nodes.length → wt x = if x < 0 then wc L nodes.length (fun _ => false) x else 0) := Lib.hid ⟨_, hRF, fun x hx => by simp⟩
            have hii : ¬ (i : Int) < (nodes.length : Int) := by omega
            clear hH hR hft hRF hlt hi
            go_wp2_with fail
            clear hii
            -- counts
            go_loopw [14] (fun y wr => ∃ i : Nat, i ≤ nodes.length ∧ y = .int .i64 i ∧ Hid (∃ wt, RG L nodes.length w1 wr (.slice fa nodes.length fc) FV fb (fo L) wt ∧ ∀ x, x < nodes.length → wt x = if x < i then wc L nodes.length (fun _ => false) x else 0)) (fun y _ => nodes.length - (intOf y).toNat)
            case atStart => exact ⟨0, Nat.zero_le _, rfl, HR0⟩
            case round =>
              clear HR0
              obtain ⟨i, hi, rfl, hH⟩ := hrel
              obtain ⟨wt, hR, hwt⟩ := hH.out
              by_cases hlt : i < nodes.length
              · have hii : (i : Int) < (nodes.length : Int) := by omega
                have HI : Hid (∃ wt, RG L nodes.length w1 wr (.slice fa nodes.length fc) FV fb (fo L) wt ∧ ∀ x, x < nodes.length → wt x = if x < i then wc L nodes.length (fun _ => false) x else if x = i then ((List.range 0).filter (wp L i)).length else 0) := Lib.hid ⟨wt, hR, fun x hx => by rw [hwt x hx]; simp⟩
                have HLT := Lib.hid hlt
                clear hH hR hwt hlt
                go_wp2_with fail
                go_loopw [15] (fun y wr => ∃ j : Nat, j ≤ nodes.length ∧ y = .int .i64 j ∧ Hid (∃ wt, RG L nodes.length w1 wr (.slice fa nodes.length fc) FV fb (fo L) wt ∧ ∀ x, x < nodes.length → wt x = if x < i then wc L nodes.length (fun _ => false) x else if x = i then ((List.range j).filter (wp L i)).length else 0)) (fun y _ => nodes.length - (intOf y).toNat)
                case atStart => exact ⟨0, Nat.zero_le _, rfl, HI⟩
                case round =>
                  clear HI
                  obtain ⟨j, hj, rfl, hH⟩ := hrel
                  obtain ⟨wt, hR, hwt⟩ := hH.out
                  by_cases hlj : j < nodes.length
                  · have hji : (j : Int) < (nodes.length : Int) := by omega
                    obtain ⟨g, off, rg, ro, rc, rfl, k0, k1⟩ := froms_row hR.frm HLT.out
                    have b0 := k1 j hlj
                    have f0 := (own_num hR.fst hlj).1
                    have f1 := (own_num hR.fst HLT.out).1
                    obtain ⟨s0, s1⟩ := own_num hR.wts HLT.out
                    have hwi := hwt i HLT.out
                    rw [if_neg (by omega), if_pos rfl] at hwi
                    have hle : wt i ≤ 100 := by
                      rw [hwi]
                      have := List.length_filter_le (wp L i) (List.range j)
                      rw [List.length_range] at this
                      omega
                    have hfs : ((List.range (j + 1)).filter (wp L i)).length = ((List.range j).filter (wp L i)).length + (if wp L i j then 1 else 0) := by
                      rw [List.range_succ, List.filter_append, List.length_append]
                      cases hw : wp L i j <;> simp [hw]
                    have HQ0 : Hid (wp L i j = false → ∃ wt, RG L nodes.length w1 wr (.slice (some ⟨g, off, none⟩) nodes.length fc) FV fb (fo L) wt ∧ ∀ x, x < nodes.length → wt x = if x < i then wc L nodes.length (fun _ => false) x else if x = i then ((List.range (j + 1)).filter (wp L i)).length else 0) := Lib.hid fun hw =>
                      ⟨wt, hR, fun x hx => by rw [hwt x hx, hfs, hw]; simp⟩
                    have HQ1 : Hid (wp L i j = true → ∃ wt', RG L nodes.length w1 (wr.setCell ⟨fb + 1, i, none⟩ (.int .i64 ((wt i : Int) + 1))) (.slice (some ⟨g, off, none⟩) nodes.length fc) FV fb (fo L) wt' ∧ ∀ x, x < nodes.length → wt' x = if x < i then wc L nodes.length (fun _ => false) x else if x = i then ((List.range (j + 1)).filter (wp L i)).length else 0) := Lib.hid fun hw =>
                      ⟨setN wt i (wt i + 1), hR.setW HLT.out (wt i + 1), fun x hx => by
                        unfold setN
                        by_cases e : x = i
                        · subst e
                          rw [if_pos rfl, if_neg (by omega), if_pos rfl, hfs, hw, hwi]
                          simp
                        · rw [if_neg e, hwt x hx]
                          simp [e]⟩
                    have hwp : wp L i j = ((fo L j == j) && rb L i j && (fo L i != j)) := rfl
                    generalize wt i = m at s0 hle HQ1
                    generalize wp L i j = pw at HQ0 HQ1 hwp
                    clear hH hR hwt k1 hwi hfs hlj
                    by_cases a1 : fo L j = j
                    · rw [a1] at f0
                      rw [beq_iff_eq.2 a1] at hwp
                      cases hb : rb L i j with
                      | false =>
                        rw [hb] at b0 hwp
                        have Q := Lib.hid (HQ0.out (by rw [hwp]; rfl))
                        clear hwp a1 hb
                        go_wp2
                        go_roundw
                        case rel => exact ⟨j + 1, by omega, by go_num, Q⟩
                        case measure => simp [intOf]; omega
                      | true =>
                        rw [hb] at b0 hwp
                        by_cases a2 : fo L i = j
                        · rw [a2] at f1
                          have Q := Lib.hid (HQ0.out (by rw [hwp, a2]; simp))
                          clear hwp a1 hb a2
                          go_wp2
                          go_roundw
                          case rel => exact ⟨j + 1, by omega, by go_num, Q⟩
                          case measure => simp [intOf]; omega
                        · have Q := Lib.hid (HQ1.out (by rw [hwp]; simpa using a2))
                          generalize fo L i = x1 at f1 a2
                          have hne : ((x1 : Int) != (j : Int)) = true := by simp; omega
                          clear hwp a1 hb a2
                          go_wp2
                          go_roundw
                          case rel => exact ⟨j + 1, by omega, by go_num, Q⟩
                          case measure => simp [intOf]; omega
                    · have Q := Lib.hid (HQ0.out (by rw [hwp]; simp [a1]))
                      generalize fo L j = x1 at f0 a1
                      have hne : ((x1 : Int) == (j : Int)) = false := by simp; omega
                      clear hwp a1
                      go_wp2
                      go_roundw
                      case rel => exact ⟨j + 1, by omega, by go_num, Q⟩
                      case measure => simp [intOf]; omega
                  · obtain rfl : j = nodes.length := by omega
                    have Q : Hid (∃ wt, RG L nodes.length w1 wr (.slice fa nodes.length fc) FV fb (fo L) wt ∧ ∀ x, x < nodes.length → wt x = if x < i + 1 then wc L nodes.length (fun _ => false) x else 0) := Lib.hid ⟨wt, hR, fun x hx => by
                      rw [hwt x hx]
                      by_cases e : x = i
                      · subst e
                        rw [if_neg (by omega), if_pos rfl, if_pos (by omega)]
                        unfold wc
                        simp
                      · by_cases e2 : x < i
                        · rw [if_pos e2, if_pos (by omega)]
                        · rw [if_neg e2, if_neg e, if_neg (by omega)]⟩
                    have hji : ¬ (nodes.length : Int) < (nodes.length : Int) := by omega
                    clear hH hR hwt hlj hj
                    go_wp2
                    go_roundw
                    case rel => exact ⟨i + 1, by have := HLT.out; omega, by go_num, Q⟩
                    case measure => have := HLT.out; simp [intOf]; omega
              · obtain rfl : i = nodes.length := by omega
                obtain ⟨w7, hr7, ho7, hk7, hs7⟩ := run_make_one slBool rfl wr nodes.length nodes.length (Nat.le_refl _) (by omega) (by unfold maxLen; omega)
                replace hr7 := hr7 _ _ rfl rfl
                have hRD : RD L nodes.length w1 w7 (.slice fa nodes.length fc) FV fb wr.heap.size wt (fun _ => false) (.slice none 0 0) (fun _ => False) [] :=
                  ⟨hR.frame hk7 (fun _ h => h.elim), by rw [marksB_false]; exact ho7, LsIs.nil _, fun _ h => h.elim, hR.wts.lt (by simp [Value.ownBlock])⟩
                have HD0 : Hid (∃ S wv FO, RD L nodes.length w1 w7 (.slice fa nodes.length fc) FV fb wr.heap.size wv S (.slice none 0 0) FO (List.map (fun o => pick (sm L o) nodes) []) ∧ RSt L nodes.length [] S wv ∧ 0 + um nodes.length S = nodes.length ∧ um nodes.length S ≤ nodes.length ∧ (0 : Nat) ≤ 0) := Lib.hid
                  ⟨_, wt, _, hRD, ⟨.nil, fun x _ => by simp [Told], fun x hx _ => by rw [hwt x hx, if_pos hx]⟩, by rw [um_none]; omega, um_le _ _, Nat.le_refl _⟩
                have hii : ¬ (nodes.length : Int) < (nodes.length : Int) := by omega
                clear hH hR hwt hRD ho7 hk7 hlt hi
                go_wp2_with fail
                generalize wr.heap.size = tb at HD0 ⊢
                clear hr7 hs7 hii
                -- the telling
                go_loopg [16, 18] nodes.length (fun gg ov cv wr => ∃ oa oc O cnt, ov = .slice oa (List.length O) oc ∧ cv = .int .i64 ((cnt : Nat) : Int) ∧ cnt ≤ nodes.length ∧ Hid (∃ S wv FO, RD L nodes.length w1 wr (.slice fa nodes.length fc) FV fb tb wv S ov FO (O.map fun o => pick (sm L o) nodes) ∧ RSt L nodes.length O S wv ∧ cnt + um nodes.length S = nodes.length ∧ um nodes.length S ≤ gg ∧ List.length O ≤ cnt))
                case atStart => exact ⟨none, 0, [], 0, rfl, rfl, Nat.zero_le _, HD0⟩
                case round =>
                  clear HD0
                  obtain ⟨oa, oc, O, cnt, rfl, rfl, hcnt, hH⟩ := hrel
                  obtain ⟨S, wv, FO, hD, hS, hu, hgg, hol⟩ := hH.out
                  by_cases hlt : cnt < nodes.length
                  · obtain ⟨k, hk⟩ := hS.any HGL.out.2 (by omega)
                    have hci : (cnt : Int) < (nodes.length : Int) := by omega
                    have HD := Lib.hid hD
                    have HS := Lib.hid hS
                    have HK := Lib.hid hk
                    have HU := Lib.hid (And.intro hu hgg)
                    obtain ⟨wA, rfl⟩ : ∃ x, x = wr := ⟨_, rfl⟩
                    clear hH hD hS hk hu hgg
                    go_wp2_with fail
                    go_loopw [19] (fun y wr => ∃ q : Nat, q ≤ k ∧ y = .int .i64 q ∧ wA = wr) (fun y _ => k - (intOf y).toNat)
                    case atStart => exact ⟨0, Nat.zero_le _, rfl, rfl⟩
                    case round =>
                      obtain ⟨q, hq, rfl, rfl⟩ := hrel
                      have hqn : q < nodes.length := by have := HK.out.1; omega
                      have f0 := (own_num HD.out.rg.fst hqn).1
                      have m0 := (HD.out.markc hqn).1
                      have s0 := (own_num HD.out.rg.wts hqn).1
                      have hqi : (q : Int) < (nodes.length : Int) := by omega
                      have hrd := ready_wc HS.out.led HS.out.told HGL.out.2 hqn
                      have hws := HS.out.wts q hqn
                      by_cases hqk : q < k
                      · have hnr := HK.out.2.2 q hqk
                        rw [hrd] at hnr
                        by_cases a1 : fo L q = q
                        · rw [a1] at f0
                          cases hSq : S q with
                          | true =>
                            rw [hSq] at m0
                            clear hrd hnr hws a1 hSq
                            go_wp2
                            go_roundw
                            case rel => exact ⟨q + 1, by omega, by go_num, by trivial⟩
                            case measure => simp [intOf]; omega
                          | false =>
                            rw [hSq] at m0
                            have hp : (0 : Int) < (wv q : Int) := by
                              have h3 : wc L nodes.length S q ≠ 0 := fun h => hnr ⟨hSq, h⟩
                              have := hws hSq
                              omega
                            generalize wv q = c1 at s0 hp
                            clear hrd hnr hws a1 hSq
                            go_wp2
                            go_roundw
                            case rel => exact ⟨q + 1, by omega, by go_num, by trivial⟩
                            case measure => simp [intOf]; omega
                        · generalize fo L q = x1 at f0 a1
                          have hne : ((x1 : Int) != (q : Int)) = true := by simp; omega
                          clear hrd hnr hws a1
                          go_wp2
                          go_roundw
                          case rel => exact ⟨q + 1, by omega, by go_num, by trivial⟩
                          case measure => simp [intOf]; omega
                      · obtain rfl : k = q := by omega
                        obtain ⟨r1, r2⟩ := hrd.1 HK.out.2.1
                        have hwz : wv k = 0 := by rw [hws r1, r2]
                        have hkf := next_first HK.out
                        rw [hkf] at f0
                        rw [r1] at m0
                        rw [hwz] at s0
                        clear hrd hws hqk hq r1 r2 hwz
                        have HKF := Lib.hid hkf
                        have HPK : Hid (pick (fun x => fo L x == k) nodes = pick (sm L k) nodes) := Lib.hid (pick_congr fun x hx => by
                          rw [Bool.eq_iff_iff, sm_iff, ← fo_first hkf]
                          simp)
                        obtain ⟨f, hff⟩ : ∃ f : Nat → Bool, f = fun x => fo L x == k := ⟨_, rfl⟩
                        rw [← hff] at HPK
                        have HFF : Hid (∀ x, f x = (fo L x == k)) := Lib.hid (fun x => by rw [hff])
                        have HPT := Lib.hid (fun (j : Nat) (hj : j < nodes.length) => pick_take f nodes hj)
                        have HPL := Lib.hid (fun j => pick_le f (nodes.take j))
                        have ho0 : pick f (nodes.take 0) = [] := by simp [pick]
                        have HJ0 : Hid (RD L nodes.length w1 wA (.slice fa nodes.length fc) FV fb tb (wvJ L wv k 0) (memJ L S k 0) (.slice oa O.length oc) FO (O.map fun o => pick (sm L o) nodes) ∧ cnt + um nodes.length (memJ L S k 0) = nodes.length ∧ Own wA 3 1 (.slice none 0 0) (pick f (nodes.take 0)).length (cellsOf encI (pick f (nodes.take 0))) ∧ ∀ b, (Value.slice none 0 0).ownBlock = some b → tb < b ∧ ¬ FO b) := Lib.hid
                          ⟨by rw [wvJ_zero, memJ_zero]; exact HD.out, by rw [memJ_zero]; exact HU.out.1, by simpa [pick, cellsOf] using Own.nil wA 3 1, by simp [Value.ownBlock]⟩
                        clear hff hkf
                        go_wp2_with fail
                        clear f0 m0 s0
                        go_loopw [18, 20, 21] (fun cv gv y wr => ∃ j c2 : Nat, j ≤ nodes.length ∧ cv = .int .i64 c2 ∧ c2 ≤ nodes.length ∧ y = .int .i64 j ∧ ∃ ma mc, gv = .slice ma (pick f (nodes.take j)).length mc ∧ Hid (RD L nodes.length w1 wr (.slice fa nodes.length fc) FV fb tb (wvJ L wv k j) (memJ L S k j) (.slice oa O.length oc) FO (O.map fun o => pick (sm L o) nodes) ∧ c2 + um nodes.length (memJ L S k j) = nodes.length ∧ Own wr 3 1 gv (pick f (nodes.take j)).length (cellsOf encI (pick f (nodes.take j))) ∧ ∀ b, gv.ownBlock = some b → tb < b ∧ ¬ FO b)) (fun _ _ y _ => nodes.length - (intOf y).toNat)
                        case atStart => exact ⟨0, cnt, Nat.zero_le _, rfl, hcnt, rfl, none, 0, by rw [ho0]; rfl, HJ0⟩
                        case round =>
                          clear HJ0
                          obtain ⟨j, c2, hj, rfl, hc2, rfl, ma, mc, rfl, hH⟩ := hrel
                          obtain ⟨hD, hu, hM, hB⟩ := hH.out
                          by_cases hlj : j < nodes.length
                          · have hji : (j : Int) < (nodes.length : Int) := by omega
                            have f0 := (own_num hD.rg.fst hlj).1
                            have hstep := HPT.out j hlj
                            have hple := HPL.out j
                            rw [List.length_take, Nat.min_eq_left hj] at hple
                            by_cases a1 : fo L j = k
                            · have hfj : f j = true := by rw [HFF.out]; simpa using a1
                              rw [hfj] at hstep
                              simp only [if_true] at hstep
                              rw [a1] at f0
                              have hSj : memJ L S k j j = false := by rw [memJ_at]; exact HS.out.fresh HK.out hlj a1
                              have hus := um_set hlj hSj
                              rw [← memJ_in a1] at hus
                              cases na with
                              | none => exact absurd (N3.out rfl).1 (by omega)
                              | some ad =>
                                have cx := rdOneI (HN.out.frame (HK1.out.trans' hD.rg.kept (fun _ _ h => h)) (fun _ _ => id)) hlj
                                unfold encI at cx
                                have HST := Lib.hid hstep
                                have HDj := Lib.hid hD
                                have HM := Lib.hid hM
                                have HB := Lib.hid hB
                                have HUS := Lib.hid (And.intro hu hus)
                                have HLJ := Lib.hid hlj
                                have HA1 := Lib.hid a1
                                generalize hxe : nodes[j] = y at cx HST
                                generalize hpe : pick f (nodes.take j) = Y at HM HB HST hple ⊢
                                have HFT : Hid (Fits (Y.length + 1) 8) := Lib.hid (fits_of (by omega) (by decide))
                                have hc3 : c2 + 1 ≤ nodes.length := by omega
                                clear hH hD hM hB hstep hxe hpe hfj a1 hSj hus hu hlj
                                go_wp2_with (first
                                  | (at_builtin
                                     refine wpList_append slInt (v := .slice ma Y.length mc) (vx := .slice (some ⟨wr.heap.size, 0, none⟩) 1 1) (news := [encI y]) (m := 1) rfl _ _ rfl rfl rfl (HM.out.alloc _) (Own.rd (Own.fresh (n := 1) (by rfl) (by decide))) (by simp [encI, Value.oneCell']) HFT.out ?_
                                     intro v7 w7 ho7 hk7 hb7 _
                                     obtain ⟨a7, c7, rfl, _, _, _⟩ := ho7.shape
                                     have hD7 := (HDj.out.frame ((Kept.refl (fun _ => False) wr).alloc (.cells #[.int .i64 y] 3)) (fun _ h => h.elim)).frame hk7 (fun b hb => HB.out b hb)
                                     have t0 := (hD7.markc HLJ.out).1
                                     have t1 := (hD7.markc HLJ.out).2
                                     have HD7 := Lib.hid hD7
                                     clear hD7))
                                have Q : Hid (RD L nodes.length w1 (w7.setCell ⟨tb, j, none⟩ (.bool true)) (.slice fa nodes.length fc) FV fb tb (wvJ L wv k (j + 1)) (memJ L S k (j + 1)) (.slice oa O.length oc) FO (O.map fun o => pick (sm L o) nodes) ∧ c2 + 1 + um nodes.length (memJ L S k (j + 1)) = nodes.length ∧ Own (w7.setCell ⟨tb, j, none⟩ (.bool true)) 3 1 (.slice a7 (Y.length + 1) c7) (pick f (nodes.take (j + 1))).length (cellsOf encI (pick f (nodes.take (j + 1)))) ∧ ∀ b, (Value.slice a7 (Y.length + 1) c7).ownBlock = some b → tb < b ∧ ¬ FO b) := Lib.hid (by
                                  have hbb : ∀ b, (Value.slice a7 (Y.length + 1) c7).ownBlock = some b → tb < b ∧ ¬ FO b := fun b hb => by
                                    rcases hb7 b hb with h | h
                                    · exact HB.out b h
                                    · simp at h
                                      have h3 := HDj.out.tld.lt (b := tb) (by simp [Value.ownBlock])
                                      exact ⟨by omega, fun h2 => by have := HDj.out.out.lt h2; omega⟩
                                  rw [HST.out, memJ_in HA1.out, wvJ_same (.inl HA1.out)]
                                  refine ⟨HD7.out.mark HLJ.out, by have := HUS.out; rw [memJ_in HA1.out] at this; omega, by rw [cellsOf_append, List.length_append]; exact ho7.setCell (p := ⟨tb, j, none⟩) (fun e => by have := (hbb _ e).1; simp at this) _, hbb⟩)
                                have hlen : (pick f (nodes.take (j + 1))).length = Y.length + 1 := by rw [HST.out, List.length_append]; rfl
                                clear ho7 hk7 hb7 t0 t1
                                go_roundw
                                case rel => exact ⟨j + 1, c2 + 1, by omega, by go_num, hc3, by go_num, a7, c7, by rw [hlen], Q⟩
                                case measure => simp [intOf]; omega
                            · have hfj : f j = false := by rw [HFF.out]; simpa using a1
                              rw [hfj] at hstep
                              simp only [Bool.false_eq_true, if_false, List.append_nil] at hstep
                              rw [← hstep] at hM hB ⊢
                              have hm2 := memJ_out (S := S) a1
                              rw [← hm2] at hu
                              obtain ⟨g, off, rg, ro, rc, rfl, k0, k1⟩ := froms_row hD.rg.frm hlj
                              have b0 := k1 k HK.out.1
                              have hki : (k : Int) < (nodes.length : Int) := by have := HK.out.1; omega
                              obtain ⟨s0, s1⟩ := own_num hD.rg.wts hlj
                              rw [wvJ_at] at s0
                              have HA1 := Lib.hid a1
                              obtain ⟨ln, hln⟩ : ∃ ln, ln = (pick f (nodes.take (j + 1))).length := ⟨_, rfl⟩
                              have HLN := Lib.hid hln
                              rw [← hln] at hM hB ⊢
                              cases hb : rb L j k with
                              | false =>
                                rw [hb] at b0
                                have Q := Lib.hid (And.intro hD (And.intro hu (And.intro hM hB)))
                                rw [← wvJ_same (.inr hb), ← hm2] at Q
                                generalize fo L j = x1 at f0 a1
                                have hne : ((x1 : Int) == (k : Int)) = false := by simp; omega
                                clear hH hD hu hM hB hstep hple hm2 k1 hb a1 hln hfj
                                go_wp2
                                go_roundw
                                case rel => exact ⟨j + 1, c2, by omega, by go_num, hc2, by go_num, ma, mc, by rw [HLN.out], by rw [← HLN.out]; exact Q⟩
                                case measure => simp [intOf]; omega
                              | true =>
                                rw [hb] at b0
                                obtain ⟨_, hpos⟩ := HS.out.pos HK.out hlj a1 hb
                                obtain ⟨m, hm⟩ : ∃ m, wv j = m + 1 := ⟨wv j - 1, by omega⟩
                                have hset := hD.setW hlj m
                                have hwe : setN (wvJ L wv k j) j m = wvJ L wv k (j + 1) := by
                                  rw [wvJ_less a1 hb, hm]
                                  rfl
                                rw [hwe] at hset
                                have hmle : wv j ≤ 100 := by
                                  rw [HS.out.wts j hlj (HS.out.pos HK.out hlj a1 hb).1]
                                  have := List.length_filter_le (fun x => wp L j x && !S x) (List.range nodes.length)
                                  rw [List.length_range] at this
                                  unfold wc
                                  omega
                                rw [hm] at s0 hmle
                                have hsub : ((m + 1 : Nat) : Int) - 1 = (m : Int) := by omega
                                have hkk : Kept (fun b => b = fb + 1) wr (wr.setCell ⟨fb + 1, j, none⟩ (.int .i64 (m : Int))) := (Kept.refl (fun b => b = fb + 1) wr).setCell (p := ⟨fb + 1, j, none⟩) (fun _ => rfl) _
                                have Q := Lib.hid (And.intro hset (And.intro hu (And.intro (hM.frame hkk (fun b hb e => by have := (hB b hb).1; have := hD.lt; omega)) hB)))
                                rw [← hm2] at Q
                                generalize fo L j = x1 at f0 a1
                                have hne : ((x1 : Int) == (k : Int)) = false := by simp; omega
                                clear hH hD hu hM hB hstep hple hm2 k1 hb a1 hln hfj hset hwe hpos hm hkk
                                go_wp2
                                go_roundw
                                case rel => exact ⟨j + 1, c2, by omega, by go_num, hc2, by go_num, ma, mc, by rw [HLN.out], by rw [← HLN.out]; exact Q⟩
                                case measure => simp [intOf]; omega
                          · obtain rfl : j = nodes.length := by omega
                            have htk : nodes.take nodes.length = nodes := List.take_length
                            rw [htk, HPK.out] at hM hB
                            rw [htk, HPK.out]
                            have HMAP : Hid ((O ++ [k]).map (fun o => pick (sm L o) nodes) = O.map (fun o => pick (sm L o) nodes) ++ [pick (sm L k) nodes]) := Lib.hid (by simp)
                            have hpl := pick_le (sm L k) nodes
                            generalize pick (sm L k) nodes = Y at hM hB HMAP hpl ⊢
                            have hlt2 : um nodes.length (memJ L S k nodes.length) < um nodes.length S := by
                              have hSk := HS.out.fresh HK.out HK.out.1 HKF.out
                              unfold um
                              refine filter_lt (z := k) (fun x hx => ?_) (List.mem_range.2 HK.out.1) (by simp [hSk]) ?_
                              · simp only [memJ, Bool.not_eq_true', Bool.or_eq_false_iff] at hx ⊢
                                exact hx.1
                              · simp [memJ, HKF.out, HK.out.1]
                            obtain ⟨vs, p1, p2, p3, p4⟩ := hD.out
                            have hvl : vs.length = O.length := by have := p2.len; simpa using this
                            have HVL := Lib.hid hvl
                            have HFT : Hid (Fits (vs.length + 1) 24) := Lib.hid (fits_of (by omega) (by decide))
                            have HDj := Lib.hid hD
                            have HM := Lib.hid hM
                            have HB := Lib.hid hB
                            have P1 := Lib.hid p1
                            have P2 := Lib.hid (And.intro p2 (And.intro p3 p4))
                            have HUL := Lib.hid (And.intro hu hlt2)
                            have hv2 : vs.length + 1 ≤ 9223372036854775807 := by omega
                            have hji : ¬ (nodes.length : Int) < (nodes.length : Int) := by omega
                            clear hH hD hu hM hB p1 p2 p3 p4 hlj hj hvl htk hlt2
                            go_wp2_with (first
                              | (at_builtin
                                 refine wpList_append slRows (v := .slice oa O.length oc) (vx := .slice (some ⟨wr.heap.size, 0, none⟩) 1 1) (n := vs.length) (news := [.slice ma Y.length mc]) (m := 1) rfl _ _ rfl rfl rfl (P1.out.alloc _) (Own.rd (Own.fresh (n := 1) (by rfl) (by decide))) (by simp [Value.oneCell']) HFT.out ?_
                                 intro v9 w9 ho9 hk9 hb9 _
                                 obtain ⟨a9, c9, rfl, _, _, _⟩ := ho9.shape))
                            have Q : Hid (∃ S' wv FO, RD L nodes.length w1 w9 (.slice fa nodes.length fc) FV fb tb wv S' (.slice a9 (vs.length + 1) c9) FO ((O ++ [k]).map fun o => pick (sm L o) nodes) ∧ RSt L nodes.length (O ++ [k]) S' wv ∧ c2 + um nodes.length S' = nodes.length ∧ um nodes.length S' ≤ um nodes.length (memJ L S k nodes.length) ∧ (O ++ [k]).length ≤ c2) := Lib.hid (by
                              obtain ⟨FO', r⟩ := HDj.out.snoc P1.out P2.out.1 P2.out.2.1 P2.out.2.2 HM.out HB.out hk9 hb9 ho9 (HDj.out.tld.lt (by simp [Value.ownBlock]))
                              exact ⟨_, _, FO', by rw [HMAP.out]; exact r, HS.out.next HK.out, HUL.out.1, Nat.le_refl _, by have := HUL.out; have := HU.out; simp only [List.length_append, List.length_singleton]; omega⟩)
                            clear ho9 hk9 hb9
                            go_roundg (um nodes.length (memJ L S k nodes.length))
                            case measure => have := HUL.out; have := HU.out; omega
                            case rel => exact ⟨a9, c9, O ++ [k], c2, by rw [List.length_append, HVL.out]; rfl, rfl, hc2, Q⟩
                  · have HR := Lib.hid (HGO.out O (hS.done (by omega)))
                    have HD := Lib.hid hD
                    have hci : ¬ (cnt : Int) < (nodes.length : Int) := by omega
                    clear hH hD hS hu hgg
                    go_wp2
                    go_ret2
                    rw [HR.out]
                    exact ⟨_, rfl, FO, HD.out.out, HK1.out.trans' HD.out.rg.kept (fun _ _ h => h), fun b hb => by have := HD.out.fo b hb; have := HD.out.lt; have := HD.out.rg.lo; have := HK1.out.size; omega⟩
  · have hE2 : ((errOf nodes uses) != 0) = true := by rcases hE with h | h <;> rw [h] <;> rfl
    have HR : Hid (gOut nodes uses = []) := Lib.hid (by
      unfold gOut
      rw [if_neg (by rcases hE with h | h <;> rw [h] <;> decide)])
    generalize errOf nodes uses = er at HCK HR hE2 ⊢
    clear hE HLI
    go_enter Try.func13, Try.ntmps13
    go_wp2_with fail
    refine HCK.out.mono ?_
    rintro e w1 ⟨rfl, rfl⟩
    go_wp2
    go_ret2
    rw [HR.out]
    exact ⟨_, _, rfl, LsIs.nil _, Kept.refl _ _, fun _ h => h.elim⟩

end Go.Proofs.Ytncloielmfplpaa
