/- order.Groups at one type of things. -/
import Derived.Test.YtncloielmfplpaaGrpPS
import Derived.Test.YtncloielmfplpaaGrpM5
import Derived.StillTailTactics
import Derived.WalkSpells
namespace Go.Proofs.Ytncloielmfplpaa
open Go.RowKit Go.Shelf
set_option linter.unusedVariables false
set_option linter.unusedSimpArgs false

abbrev TMS := TM (α := List UInt8) 44 9 encS
abbrev LsXS := LsIs (α := List UInt8) 44 9 encS

theorem entersLitS (args : Array Value) (w : World) : (callFunc 39 args).run Try.prog w = .ok (.enter 39 args) w :=
  enters_of Try.func39 (by kernel_rfl) rfl args w

set_option maxRecDepth 100000 in
set_option maxHeartbeats 8000000 in
theorem groupsS {w : World} {nv uv : Value} {nodes : List (List UInt8)} {uses : List (List UInt8 × List UInt8)} (hn : Rd w 1 nv nodes.length (cellsOf encS nodes)) (hu : Rd w 2 uv uses.length (cellsOf encPrS uses)) (h1 : nodes.length ≤ 100) (h2 : uses.length ≤ 1000) :
    Calls Try.prog 21 #[nv, uv] w fun e w' => ∃ v FO, e = .returned (.tuple #[v, .int .i64 (errOf nodes uses)]) ∧ LsXS w' v FO (gOut nodes uses) ∧ Kept (fun _ => False) w w' ∧ ∀ b, FO b → w.heap.size ≤ b := by
  have HGO := Lib.hid (graphOfS hn hu h1 h2)
  obtain ⟨na, nc, rfl, n1, n2, n3⟩ := hn.2
  have N3 := Lib.hid n3.1
  have HN := Lib.hid hn
  clear n3 hn hu
  have hn2 : nc ≤ 9223372036854775807 := by unfold maxLen at n2; omega
  have HM2 := Lib.hid n2
  rcases errOf_cases nodes uses with hE | hE
  · have HE := Lib.hid hE
    rw [hE] at HGO ⊢
    clear hE
    go_enter Try.func21, Try.ntmps21
    go_wp2_with fail
    refine HGO.out.mono ?_
    rintro e w1 ⟨_, _, ip, rfl, hk1, _, ⟨ga, gn, gc, rfl⟩, hok⟩
    obtain ⟨hnd, hall, rfl, F, FI, ib, rfl, hLs, hIdx, hFb⟩ := hok (by first | rfl | trivial)
    clear HGO
    have hLlt := fun b hb => hLs.lt (b := b) hb
    obtain ⟨ga', gc', hgv', gg1, gg2, gg3⟩ := hLs.shape
    rw [graphL_length] at hgv' gg1 gg3
    simp only [Value.slice.injEq] at hgv'
    obtain ⟨rfl, rfl, rfl⟩ := hgv'
    have hgc : gc ≤ 9223372036854775807 := by unfold maxLen at gg2; omega
    have HG3 := Lib.hid gg3
    have HK1 := Lib.hid hk1
    have HLs := Lib.hid hLs
    have HAll := Lib.hid hall
    have HLL := Lib.hid hLlt
    clear hk1 hok hnd hall hLs hIdx hFb hLlt gg3
    go_wp2_with fail
    have hE0 : (w1.alloc (.cells #[.slice na nodes.length nc, .slice ga nodes.length gc] 75)).heap[w1.heap.size]? = some (.cells #[.slice na nodes.length nc, .slice ga nodes.length gc] 75 (0, 0)) := heap_alloc_new _ _
    have KA := (Kept.refl (fun _ => False) w1).alloc (.cells #[.slice na nodes.length nc, .slice ga nodes.length gc] 75)
    have hsA : (w1.alloc (.cells #[.slice na nodes.length nc, .slice ga nodes.length gc] 75)).heap.size = w1.heap.size + 1 := World.size_alloc _ _
    generalize w1.alloc (.cells #[.slice na nodes.length nc, .slice ga nodes.length gc] 75) = wA at hE0 KA hsA ⊢
    have HLa := Lib.hid (HLs.out.frame KA (fun _ _ => id))
    have HKa := Lib.hid (HK1.out.trans' KA (fun _ _ h => h))
    have HE0 := Lib.hid hE0
    have HL : Hid (∀ x z, z ∈ nxt (graphL nodes uses) x → z < nodes.length) := Lib.hid (fun x z hz => graphL_lt HAll.out hz)
    have HLE : Hid (∀ x, (nxt (graphL nodes uses) x).length ≤ 1000) := Lib.hid (by
      intro x
      have := adjP_le (n := nodes.length) (prs nodes uses) x
      have h3 : (prs nodes uses).length = uses.length := by simp [prs]
      unfold graphL
      omega)
    have HGL : Hid ((graphL nodes uses).length = nodes.length) := Lib.hid (graphL_length nodes uses)
    have HGO : Hid (∀ O, leds (graphL nodes uses) nodes.length = O → gOut nodes uses = O.map fun o => pick (sm (graphL nodes uses) o) nodes) := Lib.hid fun O h => by
      unfold gOut
      rw [if_pos HE.out, h]
    generalize graphL nodes uses = L at HLa HL HLE HGL HGO
    clear KA hE0 HLs HAll HE
    refine (circlesS HGL.out h1 HL.out HLE.out HLa.out n1 HM2.out).mono ?_
    rintro e w2 ⟨gv, gr, c, rfl, hgv, hk2, hgb, hgrp⟩
    have hcn := hgrp.le
    have HGRP := Lib.hid hgrp
    have hs2 := hk2.size
    have HKb := Lib.hid (HKa.out.trans' hk2 (fun _ _ h => h))
    have HLb := Lib.hid (HLa.out.frame hk2 (fun _ _ => id))
    have HGV := Lib.hid hgv
    have HGB : Hid (∀ b, gv.ownBlock = some b → w.heap.size ≤ b) := Lib.hid fun b hb => by have := hgb b hb; have := HKa.out.size; omega
    have hE2 := (hk2.block _ (heap_lt HE0.out) id).trans HE0.out
    have ce2 : w2.cell? ⟨w1.heap.size, 1, none⟩ = some (.slice ga nodes.length gc) := cell_of hE2 rfl
    obtain ⟨va, vc, rfl, v1, v2, v3⟩ := hgv.shape
    have hvc : vc ≤ 9223372036854775807 := by unfold maxLen at v2; omega
    obtain ⟨w3, hrun, hmo, hmk, hms⟩ := run_make_one slMaps rfl w2 c c (Nat.le_refl _) (by omega) (by unfold maxLen; omega)
    replace hrun := hrun _ _ rfl rfl
    have ce3 : w3.cell? ⟨w1.heap.size, 1, none⟩ = some (.slice ga nodes.length gc) := hmk.cell ce2 id
    have ce4 : (w3.alloc (.cells #[.slice (some ⟨w2.heap.size, 0, none⟩) c c] 69)).cell? ⟨w1.heap.size, 1, none⟩ = some (.slice ga nodes.length gc) := ((Kept.refl (fun _ => False) w3).alloc _).cell ce3 id
    have hGW : GW L nodes.length gr c (.slice va nodes.length vc) (.slice ga nodes.length gc) F w (w3.alloc (.cells #[.slice (some ⟨w2.heap.size, 0, none⟩) c c] 69)) w2.heap.size (fun _ => none) (fun _ => []) := by
      have hbx := heap_alloc_new w3 (.cells #[.slice (some ⟨w2.heap.size, 0, none⟩) c c] 69)
      rw [hms] at hbx
      exact ⟨(HGV.out.frame hmk (fun _ _ => id)).alloc _, (HLb.out.frame hmk (fun _ _ => id)).frame ((Kept.refl (fun _ => False) w3).alloc _) (fun _ _ => id), hbx, WaitsIs.made (hmo.alloc _), fun b hb => HGV.out.lt hb, fun b hb => HLb.out.lt hb, fun d b _ h => (by cases h), HKb.out.size, (HKb.out.trans' hmk (fun _ _ h => h)).alloc _⟩
    have HGW := Lib.hid hGW
    clear hgv hk2 hgb hgrp hE2 hmo hmk hGW HKa HLa HE0 v3 hsA
    go_wp2_with fail
    have hwb := HKb.out.size
    generalize w3.alloc (.cells #[.slice (some ⟨w2.heap.size, 0, none⟩) c c] 69) = w4 at HGW ⊢
    generalize w2.heap.size = wb at HGW hwb ⊢
    clear hrun hms ce2 ce3 ce4 HGV HLb HKb HLL HK1 hs2
    generalize hnl : nodes.length = n at h1 HN N3 n1 HGW HGRP HGO HGL HL v1 gg1 hcn HG3 ⊢
    -- loop1
    go_loopw [45] (fun i wr => ∃ k : Nat, k ≤ n ∧ i = .int .i64 k ∧ Hid (∃ mb WS, GW L n gr c (.slice va n vc) (.slice ga n gc) F w wr wb mb WS ∧ Wt L n gr k [] (fun _ => false) WS)) (fun i _ => n - (intOf i).toNat)
    case atStart => exact ⟨0, Nat.zero_le _, rfl, Lib.hid ⟨_, _, HGW.out, Wt.start _ _ _ _⟩⟩
    case round =>
      clear HGW
      obtain ⟨k, hk, rfl, hH⟩ := hrel
      obtain ⟨mb, WS, hG, hW⟩ := hH.out
      by_cases hlt : k < n
      · obtain ⟨ug, uo, ucap, rv, hue, _, _, r0, _, hro, hFg, _, hrF, _⟩ := hG.ls.row (i := k) (by rw [HGL.out]; exact hlt)
        rw [HGL.out] at hue
        simp only [Value.slice.injEq, true_and] at hue
        obtain ⟨rfl, rfl⟩ := hue
        rw [← nxt_get] at hro
        obtain ⟨ra, rc, rfl, q1, q2, q3⟩ := hro.shape
        obtain ⟨vg, vo, vcap, hve, _, _, _, _, _⟩ := hG.grp.elt (by omega)
        simp only [Value.slice.injEq, true_and] at hve
        obtain ⟨rfl, rfl⟩ := hve
        have HRB : Hid (∀ b, (Value.slice ra (nxt L k).length rc).ownBlock = some b → b < wb) := Lib.hid fun b hb => hG.fl b (hrF b hb)
        have HYN : Hid (∀ z ∈ nxt L k, z < n) := Lib.hid fun z hz => HL.out k z hz
        have hyl := HLE.out k
        have HWT := Lib.hid (fun (WS : Nat → List Nat) (h : Wt L n gr k (nxt L k) (fun _ => false) WS) => h.close)
        have HQ3 := Lib.hid q3
        obtain ⟨Y, hYe⟩ : ∃ Y, Y = nxt L k := ⟨_, rfl⟩
        rw [← hYe] at hro HRB HYN hyl HWT HQ3 q1 r0
        have HI : Hid (∃ mb WS, GW L n gr c (.slice (some ⟨vg, vo, none⟩) n vc) (.slice (some ⟨ug, uo, none⟩) n gc) F w wr wb mb WS ∧ Wt L n gr k (Y.take 0) (fun _ => false) WS ∧ Own wr 3 1 (.slice ra Y.length rc) Y.length (cellsOf encN Y)) := Lib.hid ⟨mb, WS, hG, by simpa using hW, hro⟩
        clear hH hG hW hro hrF hFg q3 hYe q2
        go_wp2_with fail
        clear r0
        go_loopw [52] (fun i wr => ∃ j : Nat, j ≤ Y.length ∧ i = .int .i64 j ∧ Hid (∃ mb WS, GW L n gr c (.slice (some ⟨vg, vo, none⟩) n vc) (.slice (some ⟨ug, uo, none⟩) n gc) F w wr wb mb WS ∧ Wt L n gr k (Y.take j) (fun _ => false) WS ∧ Own wr 3 1 (.slice ra Y.length rc) Y.length (cellsOf encN Y))) (fun i _ => Y.length - (intOf i).toNat)
        case atStart => exact ⟨0, Nat.zero_le _, rfl, HI⟩
        case round =>
          clear HI
          obtain ⟨j, hj, rfl, hH⟩ := hrel
          obtain ⟨mb, WS, hG, hW, hR⟩ := hH.out
          by_cases hltj : j < Y.length
          · obtain ⟨yg, yo, yc, hyv, _, _, ycl, _, _⟩ := hR.elt (by omega)
            simp only [Value.slice.injEq, true_and] at hyv
            obtain ⟨rfl, rfl⟩ := hyv
            have y0 : wr.cell? ⟨yg, yo + j, none⟩ = some (.int .i64 (Y[j] : Int)) := ycl j _ (by rw [cellsOf_encN]; simp [hltj])
            have hzn := HYN.out _ (List.getElem_mem hltj)
            have HTK : Hid (Y.take (j + 1) = Y.take j ++ [Y[j]]) := Lib.hid (List.take_succ_eq_append_getElem hltj)
            generalize Y[j] = z at y0 hzn HTK
            have cz := hG.num rfl hzn
            have ck := hG.num rfl hlt
            have hzi : (z : Int) < (n : Int) := by omega
            have hki : (k : Int) < (n : Int) := by omega
            have HKC := Lib.hid (HGRP.out.lt k hlt)
            have HZC := Lib.hid (HGRP.out.lt z hzn)
            have HR := Lib.hid hR
            by_cases he : gr k = gr z
            · have Q : Hid (∀ wx, Kept (fun _ => False) wr wx → ∃ mb WS, GW L n gr c (.slice (some ⟨vg, vo, none⟩) n vc) (.slice (some ⟨ug, uo, none⟩) n gc) F w wx wb mb WS ∧ Wt L n gr k (Y.take (j + 1)) (fun _ => false) WS ∧ Own wx 3 1 (.slice (some ⟨yg, yo, none⟩) Y.length rc) Y.length (cellsOf encN Y)) := Lib.hid fun wx hk =>
                ⟨mb, WS, hG.same hk, by rw [HTK.out]; exact hW.skip he, HR.out.frame hk (fun _ _ => id)⟩
              rw [← he] at cz
              generalize gr k = dk at cz ck
              clear hH hG hW hR he ycl
              go_wp2_with fail
              go_quiet (fail)
              go_wp2
              go_roundw
              case rel => exact ⟨j + 1, by omega, by go_num, Lib.hid (Q.out _ ((Kept.refl _ _).drewN _))⟩
              case measure => simp [intOf]; omega
            · have HG := Lib.hid hG
              have HW := Lib.hid hW
              have HE := Lib.hid he
              have hne : ((gr k : Int) != (gr z : Int)) = true := by simp only [bne_iff_ne, ne_eq]; omega
              clear hH hG hW hR ycl he
              go_wp2_with fail
              go_quiet (fail)
              have KB : Kept (fun _ => False) wr (wr.drewN nq) := (Kept.refl _ _).drewN _
              have HB := Lib.hid (HG.out.same KB)
              have HRB2 := Lib.hid (HR.out.frame KB (fun _ _ => id))
              clear KB
              generalize wr.drewN nq = wB at HB HRB2 ⊢
              clear cz ck HG HR
              have cz := HB.out.num rfl hzn
              have ck := HB.out.num rfl hlt
              have cb := HB.out.boxc
              have cm := (HB.out.mapc HKC.out).1
              have hkc : (gr k : Int) < (c : Int) := by have := HKC.out; omega
              obtain ⟨dk, hdk⟩ : ∃ dk, dk = gr k := ⟨_, rfl⟩
              obtain ⟨dz, hdz⟩ : ∃ dz, dz = gr z := ⟨_, rfl⟩
              have HWT2 : Hid (Wt L n gr k (Y.take (j + 1)) (fun _ => false) (setW WS dk (putL (WS dk) dz))) := Lib.hid (by rw [HTK.out, hdk, hdz]; exact HW.out.put HE.out)
              rw [← hdk] at ck cm hkc HKC hne
              rw [← hdz] at cz HZC hne
              have HDK := Lib.hid hdk
              have HDZ := Lib.hid hdz
              clear hdk hdz HE HW
              have qT : ∀ (w : World) (r : Option Nat), (binOp .eql 70 (.map r) (.map none)).run Try.prog w = .ok (.bool r.isNone) w := fun w r => run_eql_map_nil w _ _ _ r Try.underlying70
              cases hmb : mb dk with
              | none =>
                rw [hmb] at cm
                have HMB := Lib.hid hmb
                clear hmb
                go_wp2_with fail
                go_quiet (fail)
                have KB : Kept (fun _ => False) wB (wB.drewN nq) := (Kept.refl _ _).drewN _
                have HC := Lib.hid (HB.out.same KB)
                have HRC := Lib.hid (HRB2.out.frame KB (fun _ _ => id))
                clear KB
                generalize wB.drewN nq = wC at HC HRC ⊢
                clear ck cb cm HB HRB2
                have ck := HC.out.num rfl hlt
                rw [← HDK.out] at ck
                have cb := HC.out.boxc
                have cm := (HC.out.mapc HKC.out).1
                rw [HMB.out] at cm
                have cf := (HC.out.mapc HKC.out).2.1
                have KM : Kept (fun _ => False) wC (wC.alloc (.map #[] 0)) := (Kept.refl _ _).alloc _
                have HD := HC.out.same KM
                have ck2 := HD.num rfl hlt
                rw [← HDK.out] at ck2
                have cb2 := HD.boxc
                have cm2 := (HD.mapc HKC.out).1
                rw [HMB.out] at cm2
                have cf2 := (HD.mapc HKC.out).2.1
                have HMF := Lib.hid (fun (wx : World) (hx : Kept (fun _ => False) wC wx) (hm : MapIs wx (MapKept.IsKey (.int .i64)) wC.heap.size []) => HC.out.fresh HKC.out HMB.out hx (Nat.le_refl _) hm)
                have hmm := @run_makeMap Try.prog
                clear KM HD
                go_wp2_with fail
                go_region
                go_wp2_with fail
                have KM : Kept (fun _ => False) wC (wC.alloc (.map #[] 0)) := (Kept.refl _ _).alloc _
                have KD : Kept (fun _ => False) ((wC.alloc (.map #[] 0)).setCell ⟨wb, dk, none⟩ (.map (some wC.heap.size))) ((wC.alloc (.map #[] 0)).setCell ⟨wb, dk, none⟩ (.map (some wC.heap.size))).drew := (Kept.refl _ _).drew
                have HD := Lib.hid ((HMF.out _ KM (MapIs.made wC _)).same KD)
                have HRD := Lib.hid ((((HRC.out.alloc (.map #[] 0)).setCell (p := ⟨wb, dk, none⟩) (fun e => by have := HRB.out _ e; simp at this) (.map (some wC.heap.size)))).drew)
                have HMB2 : Hid (setM mb dk wC.heap.size dk = some wC.heap.size) := Lib.hid (by simp [setM])
                clear KM KD
                generalize ((wC.alloc (.map #[] 0)).setCell ⟨wb, dk, none⟩ (.map (some wC.heap.size))).drew = wD at HD HRD ⊢
                generalize setM mb dk wC.heap.size = mb' at HD HMB2
                generalize wC.heap.size = b at HMB2
                clear ck cz cb cm cf ck2 cb2 cm2 cf2 hmm HMF HC HRC HMB
                have ck := HD.out.num rfl hlt
                rw [← HDK.out] at ck
                have cz := HD.out.num rfl hzn
                rw [← HDZ.out] at cz
                have cb := HD.out.boxc
                have cm := (HD.out.mapc HKC.out).1
                rw [HMB2.out] at cm
                go_still_tail 12, (by kernel_rfl)
                change wpList _ _ _ _ _ wD.drew
                have KDr : Kept (fun _ => False) wD wD.drew := (Kept.refl _ _).drew
                have HD3 := Lib.hid (HD.out.same KDr)
                have HR3 := Lib.hid (HRD.out.frame KDr (fun _ _ => id))
                clear KDr ck cz cb cm HD HRD
                generalize wD.drew = wE at HD3 HR3 ⊢
                refine wpList_store_any (key := .int .i64 (dz : Int)) (u := .agg #[]) koI Try.underlying70 rfl _ _ _ rfl rfl rfl rfl (HD3.out.wts.maps dk b HKC.out HMB2.out) (ikI _) ?_
                intro w5 m' hm5 hk5 hor
                rw [kvs_put hor] at hm5
                have Q : Hid (∃ mb WS, GW L n gr c (.slice (some ⟨vg, vo, none⟩) n vc) (.slice (some ⟨ug, uo, none⟩) n gc) F w w5 wb mb WS ∧ Wt L n gr k (Y.take (j + 1)) (fun _ => false) WS ∧ Own w5 3 1 (.slice (some ⟨yg, yo, none⟩) Y.length rc) Y.length (cellsOf encN Y)) := Lib.hid
                  ⟨mb', _, HD3.out.turned HKC.out HMB2.out hk5 hm5, HWT2.out, HR3.out.frame hk5 (fun b' hb' e => by have := HRB.out b' hb'; have := HD3.out.ml dk b HKC.out HMB2.out; omega)⟩
                clear hm5 hk5 hor
                go_wp2
                go_roundw
                case rel => exact ⟨j + 1, by omega, by go_num, Q⟩
                case measure => simp [intOf]; omega
              | some b =>
                rw [hmb] at cm
                have HMB2 := Lib.hid hmb
                clear hmb
                go_wp2_with fail
                go_quiet (fail)
                go_wp2_with fail
                have KB : Kept (fun _ => False) wB (wB.drewN nq) := (Kept.refl _ _).drewN _
                have HD := Lib.hid (HB.out.same KB)
                have HRD := Lib.hid (HRB2.out.frame KB (fun _ _ => id))
                clear KB
                generalize wB.drewN nq = wD at HD HRD ⊢
                clear ck cz cb cm HB HRB2
                obtain ⟨mb', rfl⟩ : ∃ m, m = mb := ⟨_, rfl⟩
                have ck := HD.out.num rfl hlt
                rw [← HDK.out] at ck
                have cz := HD.out.num rfl hzn
                rw [← HDZ.out] at cz
                have cb := HD.out.boxc
                have cm := (HD.out.mapc HKC.out).1
                rw [HMB2.out] at cm
                go_still_tail 12, (by kernel_rfl)
                change wpList _ _ _ _ _ wD.drew
                have KDr : Kept (fun _ => False) wD wD.drew := (Kept.refl _ _).drew
                have HD3 := Lib.hid (HD.out.same KDr)
                have HR3 := Lib.hid (HRD.out.frame KDr (fun _ _ => id))
                clear KDr ck cz cb cm HD HRD
                generalize wD.drew = wE at HD3 HR3 ⊢
                refine wpList_store_any (key := .int .i64 (dz : Int)) (u := .agg #[]) koI Try.underlying70 rfl _ _ _ rfl rfl rfl rfl (HD3.out.wts.maps dk b HKC.out HMB2.out) (ikI _) ?_
                intro w5 m' hm5 hk5 hor
                rw [kvs_put hor] at hm5
                have Q : Hid (∃ mb WS, GW L n gr c (.slice (some ⟨vg, vo, none⟩) n vc) (.slice (some ⟨ug, uo, none⟩) n gc) F w w5 wb mb WS ∧ Wt L n gr k (Y.take (j + 1)) (fun _ => false) WS ∧ Own w5 3 1 (.slice (some ⟨yg, yo, none⟩) Y.length rc) Y.length (cellsOf encN Y)) := Lib.hid
                  ⟨mb', _, HD3.out.turned HKC.out HMB2.out hk5 hm5, HWT2.out, HR3.out.frame hk5 (fun b' hb' e => by have := HRB.out b' hb'; have := HD3.out.ml dk b HKC.out HMB2.out; omega)⟩
                clear hm5 hk5 hor
                go_wp2
                go_roundw
                case rel => exact ⟨j + 1, by omega, by go_num, Q⟩
                case measure => simp [intOf]; omega
          · obtain rfl : j = Y.length := by omega
            rw [List.take_length] at hW
            have Q : Hid (∃ mb WS, GW L n gr c (.slice (some ⟨vg, vo, none⟩) n vc) (.slice (some ⟨ug, uo, none⟩) n gc) F w wr wb mb WS ∧ Wt L n gr (k + 1) [] (fun _ => false) WS) := Lib.hid ⟨mb, WS, hG, HWT.out WS hW⟩
            clear hH hG hW hR hltj hj
            go_wp2
            go_roundw
            case rel => exact ⟨k + 1, by omega, by go_num, Q⟩
            case measure => simp [intOf]; omega
      · obtain rfl : k = n := by omega
        obtain ⟨w5, hrun5, hmo5, hmk5, hms5⟩ := run_make_one slBool rfl wr c c (Nat.le_refl _) (by omega) (by unfold maxLen; omega)
        replace hrun5 := hrun5 _ _ rfl rfl
        have hTM : TMS L k gr c (.slice va k vc) (.slice ga k gc) F w (w5.alloc (.cells #[.slice (some ⟨wr.heap.size, 0, none⟩) c c] 60)) wb wr.heap.size mb WS (fun _ => false) (.slice none 0 0) (fun _ => False) [] := by
          have hbx := heap_alloc_new w5 (.cells #[.slice (some ⟨wr.heap.size, 0, none⟩) c c] 60)
          rw [hms5] at hbx
          refine ⟨(hG.same hmk5).same ((Kept.refl (fun _ => False) w5).alloc _), hbx, ?_, LsIs.nil _, fun d b hd hb => (hG.wts.maps d b hd hb).lt, heap_lt hG.box, fun _ h => h.elim⟩
          rw [marksB_false]
          exact hmo5.alloc _
        have HTM := Lib.hid hTM
        have HSS : Hid (SchSt L k gr c [] (fun _ => false) WS) := Lib.hid (SchSt.start hW)
        clear hH hG hW hTM hmo5 hmk5 hlt hk
        go_wp2_with fail
        generalize w5.alloc (.cells #[.slice (some ⟨wr.heap.size, 0, none⟩) c c] 60) = w6 at HTM ⊢
        generalize wr.heap.size = tb at HTM ⊢
        clear hrun5 hms5
        -- loop2
        go_loopg [16] c (fun gg ov wr => ∃ oa oc O, ov = .slice oa (List.length O) oc ∧ List.length O ≤ c ∧ c - List.length O ≤ gg ∧ Hid (∃ S WS FO, TMS L k gr c (.slice va k vc) (.slice ga k gc) F w wr wb tb mb WS S ov FO (O.map fun o => pick (sm L o) nodes) ∧ SchSt L k gr c O S WS))
        case atStart => exact ⟨none, 0, [], rfl, Nat.zero_le _, by simp, Lib.hid ⟨_, _, _, HTM.out, HSS.out⟩⟩
        case round =>
          clear HTM HSS
          obtain ⟨oa, oc, O, rfl, hol, hgg, hH⟩ := hrel
          obtain ⟨S, WS, FO, hT, hS⟩ := hH.out
          by_cases hlt : O.length < c
          · have hex := hS.any HGRP.out HL.out HGL.out hlt
            have HIF := Lib.hid (indexFunc5 39 #[.pointer (some ⟨tb + 1, 0, none⟩), .pointer (some ⟨wb + 1, 0, none⟩)] entersLitS (fun d => !S d && (WS d).isEmpty) hT.gw.grp
              (fun x hx => mayTellS hT.gw.box hT.gw.wts hT.tbx hT.tld (HGRP.out.lt x hx) (by omega)) (by obtain ⟨i, h1, h2, h3⟩ := hex; exact ⟨i, h1, by simp [h2, h3]⟩))
            have HT := Lib.hid hT
            have HS := Lib.hid hS
            have hlt2 : (O.length : Int) < (c : Int) := by omega
            clear hH hT hS hex
            go_wp2_with fail
            refine HIF.out.mono ?_
            rintro e w7 ⟨i, rfl, hi, hpi, hbe, rfl⟩
            have hpi2 : S (gr i) = false ∧ WS (gr i) = [] := by simpa using hpi
            have HSN : Hid (SchSt L k gr c (O ++ [i]) (setB S (gr i)) (cutW WS (gr i) c)) := Lib.hid (HS.out.next HGRP.out HL.out HGL.out hi hpi2.1 hpi2.2 (fun j hj h => by have := hbe j hj; simp [h.1, h.2] at this) HT.out.gw.wts.out)
            have HND := Lib.hid HS.out.wt.nd
            obtain ⟨vg, vo, vcap, hve, _, _, _, _, _⟩ := HT.out.gw.grp.elt (by omega)
            simp only [Value.slice.injEq, true_and] at hve
            obtain ⟨rfl, rfl⟩ := hve
            have ci := HT.out.gw.num rfl hi
            have hii : (i : Int) < (k : Int) := by omega
            have HPK : Hid (pick (fun x => gr x == gr i) nodes = pick (sm L i) nodes) := Lib.hid (grp_pick (by rw [hnl]; exact HGRP.out) (by omega))
            have HDC := Lib.hid (HGRP.out.lt i hi)
            obtain ⟨di, hdi⟩ : ∃ d, d = gr i := ⟨_, rfl⟩
            rw [← hdi] at ci HSN HPK HDC
            obtain ⟨f, hff⟩ : ∃ f : Nat → Bool, f = fun x => gr x == di := ⟨_, rfl⟩
            rw [← hff] at HPK
            have Q0 : Hid (TMS L k gr c (.slice (some ⟨vg, vo, none⟩) k vc) (.slice ga k gc) F w wr wb tb mb WS S (.slice oa O.length oc) FO (O.map fun o => pick (sm L o) nodes) ∧ Own wr 9 1 (.slice none 0 0) (pick f (nodes.take 0)).length (cellsOf encS (pick f (nodes.take 0))) ∧ ∀ b, (Value.slice none 0 0).ownBlock = some b → tb + 1 < b ∧ ¬ FO b) := Lib.hid ⟨HT.out, by simpa [pick, cellsOf] using Own.nil wr 9 1, by simp [Value.ownBlock]⟩
            have ho0 : pick f (nodes.take 0) = [] := by simp [pick]
            have HPT := Lib.hid (fun (q : Nat) (hq : q < nodes.length) => pick_take f nodes hq)
            have HPL := Lib.hid (fun q => pick_le f (nodes.take q))
            have HFF : Hid (∀ x, f x = (gr x == di)) := Lib.hid (fun x => by rw [hff])
            clear HIF HT HS hpi hbe hpi2 hdi hff
            go_wp2_with fail
            clear ci
            go_loopw [20, 109] (fun mv x wr => ∃ q : Nat, q ≤ k ∧ x = .int .i64 q ∧ ∃ ma mc, mv = .slice ma (pick f (nodes.take q)).length mc ∧ Hid (TMS L k gr c (.slice (some ⟨vg, vo, none⟩) k vc) (.slice ga k gc) F w wr wb tb mb WS S (.slice oa O.length oc) FO (O.map fun o => pick (sm L o) nodes) ∧ Own wr 9 1 mv (pick f (nodes.take q)).length (cellsOf encS (pick f (nodes.take q))) ∧ ∀ b, mv.ownBlock = some b → tb + 1 < b ∧ ¬ FO b)) (fun _ x _ => k - (intOf x).toNat)
            case atStart => exact ⟨0, Nat.zero_le _, rfl, none, 0, by rw [ho0]; rfl, Q0⟩
            case round =>
              clear Q0
              obtain ⟨q, hq, rfl, ma, mc, rfl, hH⟩ := hrel
              obtain ⟨hT, hM, hB⟩ := hH.out
              by_cases hlq : q < k
              · have cq := hT.gw.num rfl hlq
                have hqi : (q : Int) < (k : Int) := by omega
                have hqn : q < nodes.length := by omega
                have hstep := HPT.out q hqn
                have hple := HPL.out q
                rw [List.length_take] at hple
                cases hf : f q with
                | true =>
                  have hgq : gr q = di := by have := HFF.out q; rw [hf] at this; simpa using this.symm
                  rw [hgq] at cq
                  rw [hf] at hstep
                  simp only [if_true] at hstep
                  cases na with
                  | none => exact absurd (N3.out rfl).1 (by omega)
                  | some ad =>
                    have cx := rdOneS (n := k) (c := nc) (xs := nodes) (by rw [hnl]; exact HN.out.frame hT.gw.kept (fun _ _ => id)) (k := q) hqn
                    unfold encS at cx
                    have HST := Lib.hid hstep
                    have HT := Lib.hid hT
                    have HM := Lib.hid hM
                    have HB := Lib.hid hB
                    generalize hxe : nodes[q] = y at cx HST
                    generalize hpe : pick f (nodes.take q) = Y at HM HB HST hple ⊢
                    have HFT : Hid (Fits (Y.length + 1) 16) := Lib.hid (fits_of (by omega) (by decide))
                    clear hH hT hM hB hstep hxe hpe hf hgq
                    go_wp2_with (first
                      | (at_builtin
                         refine wpList_append slStr (v := .slice ma Y.length mc) (vx := .slice (some ⟨wr.heap.size, 0, none⟩) 1 1) (news := [encS y]) (m := 1) rfl _ _ rfl rfl rfl (HM.out.alloc _) (Own.rd (Own.fresh (n := 1) (by rfl) (by decide))) (by simp [encS, Value.oneCell']) HFT.out ?_
                         intro v7 w7 ho7 hk7 hb7 _
                         obtain ⟨a7, c7, rfl, _, _, _⟩ := ho7.shape))
                    have Q : Hid (TMS L k gr c (.slice (some ⟨vg, vo, none⟩) k vc) (.slice ga k gc) F w w7 wb tb mb WS S (.slice oa O.length oc) FO (O.map fun o => pick (sm L o) nodes) ∧ Own w7 9 1 (.slice a7 (Y.length + 1) c7) (pick f (nodes.take (q + 1))).length (cellsOf encS (pick f (nodes.take (q + 1)))) ∧ ∀ b, (Value.slice a7 (Y.length + 1) c7).ownBlock = some b → tb + 1 < b ∧ ¬ FO b) := Lib.hid (by
                      rw [HST.out]
                      refine ⟨(HT.out.frame ((Kept.refl (fun _ => False) wr).alloc _) (fun _ h => h.elim)).frame hk7 (fun b hb => HB.out b hb), by rw [cellsOf_append, List.length_append]; exact ho7, fun b hb => ?_⟩
                      rcases hb7 b hb with h | h
                      · exact HB.out b h
                      · simp at h
                        have h3 := heap_lt HT.out.tbx
                        exact ⟨by omega, fun h2 => by have := HT.out.out.lt h2; omega⟩)
                    have hlen : (pick f (nodes.take (q + 1))).length = Y.length + 1 := by rw [HST.out, List.length_append]; rfl
                    clear ho7 hk7 hb7
                    go_roundw
                    case rel => exact ⟨q + 1, by omega, by go_num, a7, c7, by rw [hlen], Q⟩
                    case measure => simp [intOf]; omega
                | false =>
                  have hgq : gr q ≠ di := by have := HFF.out q; rw [hf] at this; simpa using this.symm
                  have hne : ((gr q : Int) == (di : Int)) = false := by simp; omega
                  rw [hf] at hstep
                  simp only [Bool.false_eq_true, if_false, List.append_nil] at hstep
                  rw [← hstep] at hM hB ⊢
                  have Q := Lib.hid (And.intro hT (And.intro hM hB))
                  clear hH hT hM hB hf hple hstep hgq
                  obtain ⟨ln, hln⟩ : ∃ ln, ln = (pick f (nodes.take (q + 1))).length := ⟨_, rfl⟩
                  have HLN := Lib.hid hln
                  rw [← hln] at Q ⊢
                  clear hln
                  go_wp2
                  go_roundw
                  case rel => exact ⟨q + 1, by omega, by go_num, ma, mc, by rw [HLN.out], by rw [← HLN.out]; exact Q⟩
                  case measure => simp [intOf]; omega
              · obtain rfl : k = q := by omega
                have htk : nodes.take k = nodes := List.take_of_length_le (by omega)
                rw [htk, HPK.out] at hM hB
                rw [htk, HPK.out]
                have HMAP : Hid ((O ++ [i]).map (fun o => pick (sm L o) nodes) = O.map (fun o => pick (sm L o) nodes) ++ [pick (sm L i) nodes]) := Lib.hid (by simp)
                have hpl := pick_le (sm L i) nodes
                generalize pick (sm L i) nodes = Y at hM hB HMAP hpl ⊢
                obtain ⟨t1, t2, t3⟩ := hT.markc HDC.out
                have HT2 := Lib.hid (hT.mark HDC.out)
                have cbx := (hT.mark HDC.out).gw.boxc
                have hdc : (di : Int) < (c : Int) := by have := HDC.out; omega
                have HM2 := Lib.hid (hM.setCell (p := ⟨tb, di, none⟩) (fun e => by have := (hB _ e).1; simp at this; omega) (.bool true))
                have HMBK := Lib.hid hB
                clear hH hT hM hB hlq hq htk HPT HPL HPK HFF
                go_wp2_with fail
                generalize wr.setCell ⟨tb, di, none⟩ (.bool true) = w8 at HT2 HM2 ⊢
                clear t1 t2 t3 cbx
                go_loopw [130] (fun x wr => ∃ q : Nat, q ≤ c ∧ x = .int .i64 q ∧ Hid (TMS L k gr c (.slice (some ⟨vg, vo, none⟩) k vc) (.slice ga k gc) F w wr wb tb mb (cutW WS di q) (setB S di) (.slice oa O.length oc) FO (O.map fun o => pick (sm L o) nodes) ∧ Own wr 9 1 (.slice ma Y.length mc) Y.length (cellsOf encS Y))) (fun x _ => c - (intOf x).toNat)
                case atStart => exact ⟨0, Nat.zero_le _, rfl, Lib.hid ⟨by rw [cutW_zero]; exact HT2.out, HM2.out⟩⟩
                case round =>
                  clear HT2 HM2
                  obtain ⟨q, hq, rfl, hH⟩ := hrel
                  obtain ⟨hT, hM⟩ := hH.out
                  by_cases hlq : q < c
                  · have cm := (hT.gw.mapc hlq).1
                    have hqi : (q : Int) < (c : Int) := by omega
                    have hcc : cutW WS di q q = WS q := by simp [cutW]
                    have HQC := Lib.hid hlq
                    cases hmb : mb q with
                    | none =>
                      rw [hmb] at cm
                      have hwe := hT.gw.wts.empty q hlq hmb
                      have Q : Hid (TMS L k gr c (.slice (some ⟨vg, vo, none⟩) k vc) (.slice ga k gc) F w wr wb tb mb (cutW WS di (q + 1)) (setB S di) (.slice oa O.length oc) FO (O.map fun o => pick (sm L o) nodes) ∧ Own wr 9 1 (.slice ma Y.length mc) Y.length (cellsOf encS Y)) := Lib.hid (by
                        have e : cutW WS di (q + 1) = cutW WS di q := by
                          rw [cutW_succ]
                          have h3 : (WS q).filter (· != di) = cutW WS di q q := by rw [hwe, ← hcc, hwe]; rfl
                          rw [h3, setW_same]
                        rw [e]
                        exact ⟨hT, hM⟩)
                      have hdn := run_delete_nil5
                      clear hH hT hM hcc hmb hwe
                      go_wp2
                      go_roundw
                      case rel => exact ⟨q + 1, by omega, by go_num, Q⟩
                      case measure => simp [intOf]; omega
                    | some b =>
                      rw [hmb] at cm
                      have HMP := Lib.hid (hT.gw.wts.maps q b hlq hmb)
                      rw [hcc] at HMP
                      have HT := Lib.hid hT
                      have HM := Lib.hid hM
                      have HMB := Lib.hid hmb
                      clear hH hT hM hcc hmb
                      obtain ⟨w9, m', hrun, hm9, hk9, hor⟩ := HMP.out.delete koI Try.underlying70 (ikI (di : Int)) 0
                      unfold encI at hrun hor
                      rw [kvs_cut (HND.out q) hor] at hm9
                      have Q : Hid (TMS L k gr c (.slice (some ⟨vg, vo, none⟩) k vc) (.slice ga k gc) F w w9 wb tb mb (cutW WS di (q + 1)) (setB S di) (.slice oa O.length oc) FO (O.map fun o => pick (sm L o) nodes) ∧ Own w9 9 1 (.slice ma Y.length mc) Y.length (cellsOf encS Y)) := Lib.hid
                        ⟨by rw [cutW_succ]; exact HT.out.turned HQC.out HMB.out hk9 hm9, HM.out.frame hk9 (fun b' hb' e => by have := (HMBK.out b' hb').1; have := HT.out.mt q b HQC.out HMB.out; omega)⟩
                      clear hm9 hk9 hor
                      go_wp2
                      go_roundw
                      case rel => exact ⟨q + 1, by omega, by go_num, Q⟩
                      case measure => simp [intOf]; omega
                  · obtain rfl : c = q := by omega
                    obtain ⟨vs, p1, p2, p3, p4⟩ := hT.out
                    have hvl : vs.length = O.length := by have := p2.len; simpa using this
                    have HVL := Lib.hid hvl
                    have HFT : Hid (Fits (vs.length + 1) 24) := Lib.hid (fits_of (by omega) (by decide))
                    have HT := Lib.hid hT
                    have HM := Lib.hid hM
                    have P1 := Lib.hid p1
                    have P2 := Lib.hid (And.intro p2 (And.intro p3 p4))
                    have hv2 : vs.length + 1 ≤ 9223372036854775807 := by omega
                    clear hH hT hM p1 p2 p3 p4 hlq hq hvl
                    go_wp2_with (first
                      | (at_builtin
                         refine wpList_append slStrRows (v := .slice oa O.length oc) (vx := .slice (some ⟨wr.heap.size, 0, none⟩) 1 1) (n := vs.length) (news := [.slice ma Y.length mc]) (m := 1) rfl _ _ rfl rfl rfl (P1.out.alloc _) (Own.rd (Own.fresh (n := 1) (by rfl) (by decide))) (by simp [Value.oneCell']) HFT.out ?_
                         intro v9 w9 ho9 hk9 hb9 _
                         obtain ⟨a9, c9, rfl, _, _, _⟩ := ho9.shape))
                    have Q : Hid (∃ S WS FO, TMS L k gr c (.slice (some ⟨vg, vo, none⟩) k vc) (.slice ga k gc) F w w9 wb tb mb WS S (.slice a9 (vs.length + 1) c9) FO ((O ++ [i]).map fun o => pick (sm L o) nodes) ∧ SchSt L k gr c (O ++ [i]) S WS) := Lib.hid (by
                      obtain ⟨FO', r⟩ := HT.out.snoc P1.out P2.out.1 P2.out.2.1 P2.out.2.2 HM.out HMBK.out hk9 hb9 ho9
                      exact ⟨_, _, FO', by rw [HMAP.out]; exact r, HSN.out⟩)
                    clear ho9 hk9 hb9
                    go_roundg (c - (O.length + 1))
                    case measure => omega
                    case rel => exact ⟨a9, c9, O ++ [i], by rw [List.length_append, HVL.out]; rfl, by rw [List.length_append]; simp only [List.length_singleton]; omega, by rw [List.length_append]; exact Nat.le_refl _, Q⟩
          · have HR := Lib.hid (HGO.out O (hS.done HGRP.out hlt))
            have HT := Lib.hid hT
            clear hH hT hS
            have hlt2 : ¬ (O.length : Int) < (c : Int) := by omega
            go_wp2
            go_ret2
            rw [HR.out]
            exact ⟨_, rfl, FO, HT.out.out, HT.out.gw.kept, fun b hb => by have := HT.out.fo b hb; have := HT.out.lt; have := HT.out.gw.lo; omega⟩
  · have hE2 : ((errOf nodes uses) != 0) = true := by rcases hE with h | h <;> rw [h] <;> rfl
    have HR : Hid (gOut nodes uses = []) := Lib.hid (by
      unfold gOut
      rw [if_neg (by rcases hE with h | h <;> rw [h] <;> decide)])
    generalize errOf nodes uses = er at HGO HR hE2 ⊢
    clear hE
    go_enter Try.func21, Try.ntmps21
    go_wp2_with fail
    refine HGO.out.mono ?_
    rintro e w1 ⟨_, _, ip, rfl, hk1, ⟨fa, fn, fc, rfl⟩, ⟨ga, gn, gc, rfl⟩, _⟩
    have HK1 := Lib.hid hk1
    clear hk1
    go_wp2
    go_ret2
    rw [HR.out]
    exact ⟨_, _, rfl, LsIs.nil _, HK1.out.alloc _, fun _ h => h.elim⟩

end Go.Proofs.Ytncloielmfplpaa
