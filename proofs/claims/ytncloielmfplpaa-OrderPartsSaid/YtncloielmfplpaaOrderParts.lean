/- The walk of OrderParts. -/
import Derived.Test.YtncloielmfplpaaParts5
import Derived.Test.YtncloielmfplpaaReachAI
import Derived.Test.YtncloielmfplpaaWakes5
import Derived.Deep.QuietTactic
namespace Go.Proofs.Ytncloielmfplpaa
open Go.ChangeShapes Go.WideShapes Go.ChangeAt Go.RowKit
set_option linter.unusedVariables false
set_option linter.unusedSimpArgs false

theorem sum_take_le (l : List Nat) (k : Nat) : (l.take k).sum ≤ l.sum := by
  have := congrArg List.sum (List.take_append_drop k l)
  rw [List.sum_append] at this
  omega

set_option maxRecDepth 100000 in
set_option maxHeartbeats 8000000 in
theorem orderParts_walk (nv uv : Value) (nodes : List Int) (uses : List (Int × Int)) (w : World) (hn : Rd w 1 nv nodes.length (cellsOf encI nodes)) (hu : Rd w 2 uv uses.length (cellsOf encPrI uses)) :
    Calls Try.prog 7 #[nv, uv] w fun e w' => e = .returned (.bool true) ∧ Below w.heap.size w w' := by
  obtain ⟨na, nc, rfl, n1, n2, n3⟩ := hn.2
  obtain ⟨ua, uc, rfl, u1, u2, u3⟩ := hu.2
  have HN := Lib.hid hn
  have HU := Lib.hid hu
  have N3 := Lib.hid n3.1
  have U3 := Lib.hid u3.1
  unfold maxLen at n2 u2
  clear hn hu n3 u3
  by_cases hf : ¬ (nodes.length ≤ 100 ∧ uses.length ≤ 1000)
  · go_enter Try.func7, Try.ntmps7
    go_wp2_with fail
    refine (wakes5 w).mono ?_
    rintro e w1 ⟨rfl, hb1⟩
    go_wp2_with fail
    refine (fewN (w := w1) (na := na) (nc := nc) (ua := ua) (uc := uc) hf).mono ?_
    rintro e w2 ⟨rfl, rfl⟩
    go_wp2
    go_ret
    exact ⟨rfl, hb1⟩
  have hf1 : nodes.length ≤ 100 := by omega
  have hf2 : uses.length ≤ 1000 := by omega
  clear hf
  go_enter Try.func7, Try.ntmps7
  go_wp2_with fail
  refine (wakes5 w).mono ?_
  rintro e w1 ⟨rfl, hb1⟩
  have HB1 := Lib.hid hb1
  have HN1 := Lib.hid (HN.out.later hb1)
  have HU1 := Lib.hid (HU.out.later hb1)
  clear hb1
  go_wp2_with fail
  refine (fewY (w := w1) (na := na) (nc := nc) (ua := ua) (uc := uc) hf1 hf2).mono ?_
  rintro e w2 ⟨rfl, rfl⟩
  go_wp2_with fail
  refine (groupsI HN1.out HU1.out hf1 hf2).mono ?_
  rintro e w3 ⟨gv, FO, rfl, hl, hk, hb⟩
  obtain ⟨ga, gc, rfl, g1, g2, g3⟩ := hl.shape
  have HB3 := Lib.hid (below_step HB1.out (Nat.le_refl _) hk (fun _ h => h.elim))
  rcases errOf_cases nodes uses with hE | hE
  · have HP := Lib.hid (parts_ok hE)
    have HN3 := Lib.hid (HN1.out.frame hk (fun _ _ => id))
    have HU3 := Lib.hid (HU1.out.frame hk (fun _ _ => id))
    have HL := Lib.hid hl
    rw [hE]
    generalize gOut nodes uses = G at HP HL g1 g2 g3 ⊢
    have hgl : G.length ≤ 100 := by
      have h1 : ∀ l : List (List Int), (∀ i (h : i < l.length), 0 < l[i].length) → l.length ≤ (l.map List.length).sum := by
        intro l
        induction l with
        | nil => intro _; exact Nat.zero_le _
        | cons a l ih =>
          intro h
          have h2 := ih (fun i hi => h (i + 1) (by simp; omega))
          have h3 := h 0 (by simp)
          simp only [List.getElem_cons_zero] at h3
          simp only [List.length_cons, List.map_cons, List.sum_cons]
          omega
      have := h1 G HP.out.ne
      rw [HP.out.sum] at this
      omega
    have hgc : gc ≤ 9223372036854775807 := by have := g2; unfold maxLen at this; omega
    have G3 := Lib.hid g3
    have HROW : Hid (∀ wx, Kept (fun _ => False) w3 wx → ∀ i (hi : i < G.length), ∃ g off v c, ga = some ⟨g, off, none⟩ ∧ wx.cell? ⟨g, off + i, none⟩ = some (.slice v G[i].length c) ∧ Own wx 3 1 (.slice v G[i].length c) G[i].length (cellsOf encI G[i])) := Lib.hid fun wx hk i hi => by
      obtain ⟨g, off, cap, v, hv, _, _, hc, _, ho, _⟩ := (HL.out.frame hk (fun _ _ => id)).row hi
      simp only [Value.slice.injEq] at hv
      obtain ⟨a, c, rfl, _⟩ := ho.shape
      exact ⟨g, off, a, c, hv.1, hc, ho⟩
    have HNUM : Hid (∀ wx, Kept (fun _ => False) w3 wx → ∀ k, Calls Try.prog 11 #[.slice ga G.length gc, .int .i64 k] wx fun e w' => e = .returned (.int .i64 (numI G k)) ∧ wx = w') := Lib.hid fun wx hk k =>
      number5 (RdLs.of_ls (HL.out.frame hk (fun _ _ => id))) k
    have HSL : Hid (∀ i, ((G.map List.length).take i).sum ≤ nodes.length) := Lib.hid fun i => by rw [← HP.out.sum]; exact sum_take_le _ _
    clear hl hk hb hE g3 g2 HB1 HN1 HU1 HL
    go_wp2_with fail
    go_loopw [7, 8] (fun cv y wr => ∃ i s : Nat, i ≤ G.length ∧ cv = .int .i64 s ∧ y = .int .i64 i ∧ s = ((G.map List.length).take i).sum ∧ w3 = wr) (fun _ y _ => G.length - (intOf y).toNat)
    case atStart => exact ⟨0, 0, Nat.zero_le _, rfl, rfl, rfl, rfl⟩
    case round =>
      obtain ⟨i, s, hi, rfl, rfl, hs, rfl⟩ := hrel
      by_cases hlt : i < G.length
      · obtain ⟨g, off, v, c, rfl, c0, ho⟩ := HROW.out w3 (Kept.refl _ _) i hlt
        have hne := HP.out.ne i hlt
        have hii : (i : Int) < (G.length : Int) := by omega
        have h1 := HSL.out (i + 1)
        have h2 : ((G.map List.length).take (i + 1)).sum = ((G.map List.length).take i).sum + G[i].length := by
          rw [List.take_succ_eq_append_getElem (by simpa using hlt), List.sum_append]
          simp
        rw [h2] at h1
        rw [← hs] at h1 h2
        have H2 := Lib.hid h2
        generalize G[i].length = m at c0 hne h1 H2
        have hm0 : ((m : Int) == 0) = false := by simp; omega
        clear hs h2 ho hlt
        go_wp2
        go_roundw
        case rel => exact ⟨i + 1, s + m, by omega, by go_num, by go_num, H2.out.symm, by trivial⟩
        case measure => simp [intOf]; omega
      · obtain rfl : i = G.length := by omega
        have hsn : s = nodes.length := by
          rw [hs, List.take_of_length_le (by simp), HP.out.sum]
        subst hsn
        have hii : ¬ (G.length : Int) < (G.length : Int) := by omega
        clear hs hlt hi
        go_wp2_with fail
        go_loopw [9] (fun y wr => ∃ i : Nat, i ≤ nodes.length ∧ y = .int .i64 i ∧ w3 = wr) (fun y _ => nodes.length - (intOf y).toNat)
        case atStart => exact ⟨0, Nat.zero_le _, rfl, rfl⟩
        case round =>
          clear hii
          obtain ⟨i, hi, rfl, rfl⟩ := hrel
          by_cases hlt : i < nodes.length
          · cases na with
            | none => exact absurd (N3.out rfl).1 (by omega)
            | some ad =>
              have c0 := rdOneI HN3.out hlt
              obtain ⟨q, hq⟩ := HP.out.all _ (List.getElem_mem hlt)
              have hc := HNUM.out w3 (Kept.refl _ _) nodes[i]
              rw [hq] at hc
              have HC := Lib.hid hc
              generalize nodes[i] = y at c0 HC
              simp only [encI] at c0
              have hii : (i : Int) < (nodes.length : Int) := by omega
              have hq0 : decide ((q : Int) < 0) = false := by simp
              clear hc hq hlt
              go_wp2_with fail
              refine HC.out.mono ?_
              rintro e w4 ⟨rfl, rfl⟩
              go_wp2
              go_roundw
              case rel => exact ⟨i + 1, by omega, by go_num, by trivial⟩
              case measure => simp [intOf]; omega
          · have hii : ¬ (i : Int) < (nodes.length : Int) := by omega
            clear hlt
            go_wp2_with fail
            go_loopw [10] (fun y wr => ∃ i : Nat, i ≤ uses.length ∧ y = .int .i64 i ∧ Hid (Kept (fun _ => False) w3 wr)) (fun y _ => uses.length - (intOf y).toNat)
            case atStart => exact ⟨0, Nat.zero_le _, rfl, Lib.hid (Kept.refl _ _)⟩
            case round =>
              clear hii hi
              obtain ⟨i, hi, rfl, hK⟩ := hrel
              by_cases hlt : i < uses.length
              · cases ua with
                | none => exact absurd (U3.out rfl).1 (by omega)
                | some ad =>
                  obtain ⟨p0, p1⟩ := rdPrI (HU3.out.frame hK.out (fun _ _ => id)) hlt
                  have hdn := HP.out.down _ (List.getElem_mem hlt)
                  generalize uses[i] = u at p0 p1 hdn
                  obtain ⟨va, vb⟩ := u
                  simp only [encI] at p0 p1 hdn
                  have HKD : Hid (∀ n, Kept (fun _ => False) w3 (wr.drewN n)) := Lib.hid fun n => hK.out.drewN n
                  have HNQ : Hid (∀ n k, Calls Try.prog 11 #[.slice ga G.length gc, .int .i64 k] (wr.drewN n) fun e w' => e = .returned (.int .i64 (numI G k)) ∧ w' = wr.drewN n) := Lib.hid fun n k => (HNUM.out (wr.drewN n) (hK.out.drewN n) k).mono fun e w' h => ⟨h.1, h.2.symm⟩
                  have hqq : decide (numI G va < numI G vb) = false := by simp; omega
                  have hii : (i : Int) < (uses.length : Int) := by omega
                  clear hlt hdn
                  go_wp2_with fail
                  go_quiet (exact Calls.quiet_of_same (HNQ.out _ _))
                  go_wp2
                  go_roundw
                  case rel => exact ⟨i + 1, by omega, by go_num, Lib.hid (HKD.out nq)⟩
                  case measure => simp [intOf]; omega
              · have hii : ¬ (i : Int) < (uses.length : Int) := by omega
                clear hlt hi
                go_wp2_with fail
                go_loopw [11] (fun y wr => ∃ i : Nat, i ≤ G.length ∧ y = .int .i64 i ∧ Hid (Kept (fun _ => False) w3 wr)) (fun y _ => G.length - (intOf y).toNat)
                case atStart => exact ⟨0, Nat.zero_le _, rfl, hK⟩
                case round =>
                  clear hii hK
                  obtain ⟨i, hi, rfl, hK⟩ := hrel
                  by_cases hlt : i < G.length
                  · have hii : (i : Int) < (G.length : Int) := by omega
                    have HLT := Lib.hid hlt
                    clear hlt
                    go_wp2_with fail
                    go_loopw [12] (fun y wr => ∃ j : Nat, j ≤ (G[i]'HLT.out).length ∧ y = .int .i64 j ∧ Hid (Kept (fun _ => False) w3 wr)) (fun y _ => (G[i]'HLT.out).length - (intOf y).toNat)
                    case atStart => exact ⟨0, Nat.zero_le _, rfl, hK⟩
                    case round =>
                      clear hK
                      obtain ⟨j, hj, rfl, hK⟩ := hrel
                      obtain ⟨g, off, v, c, rfl, c0, ho⟩ := HROW.out wr hK.out i HLT.out
                      have HRE := Lib.hid (HP.out.reach i HLT.out)
                      have hgn := HP.out.ne i HLT.out
                      have hgs : (G[i]'HLT.out).length ≤ 100 := by
                        have h1 := HSL.out (i + 1)
                        have h2 : ((G.map List.length).take (i + 1)).sum = ((G.map List.length).take i).sum + (G[i]'HLT.out).length := by
                          rw [List.take_succ_eq_append_getElem (by simpa using HLT.out), List.sum_append]
                          simp
                        rw [h2] at h1
                        omega
                      generalize (G[i]'HLT.out) = Y at c0 ho HRE hgn hgs hj ⊢
                      by_cases hlj : j < Y.length
                      · have hji : (j : Int) < (Y.length : Int) := by omega
                        obtain ⟨yg, yo, yc, hv, _, _, ycl, _, _⟩ := ho.elt (by omega)
                        simp only [Value.slice.injEq, true_and] at hv
                        obtain ⟨rfl, rfl⟩ := hv
                        have y0 : wr.cell? ⟨yg, yo + j, none⟩ = some (.int .i64 Y[j]) := ycl j _ (by rw [cellsEncI]; simp [hlj, encI])
                        have yh : wr.cell? ⟨yg, yo + 0, none⟩ = some (.int .i64 (Y[0]'(by omega))) := ycl 0 _ (by rw [cellsEncI]; simp [hgn, encI])
                        rw [Nat.add_zero] at yh
                        obtain ⟨hr1, hr2⟩ := HRE.out Y[j] (List.getElem_mem hlj) (Y[0]'(by omega)) (List.getElem_mem _)
                        generalize Y[j] = y at y0 hr1 hr2
                        generalize Y[0]'(by omega) = y1 at yh hr2
                        have HRC := Lib.hid (reachAllI (HN3.out.frame hK.out (fun _ _ => id)) (HU3.out.frame hK.out (fun _ _ => id)) hf1 hf2 y)
                        rw [hr1] at HRC
                        have HR2 := Lib.hid hr2
                        generalize rOut nodes uses y = R at HRC HR2
                        clear ycl ho hlj hr1 hr2
                        go_wp2_with fail
                        refine HRC.out.mono ?_
                        rintro e w5 ⟨rv, rfl, f1, f2, f3⟩
                        have c0' : w5.cell? ⟨g, off + i, none⟩ = some (.slice (some ⟨yg, yo, none⟩) Y.length c) := f2.cell c0 id
                        have yh' : w5.cell? ⟨yg, yo, none⟩ = some (.int .i64 y1) := f2.cell yh id
                        obtain ⟨ra, rc, rfl, _, _, _⟩ := f1.shape
                        have KA := (Kept.refl (fun _ => False) w5).alloc (.cells #[.slice ra R.length rc] 22)
                        have c1' : (w5.alloc (.cells #[.slice ra R.length rc] 22)).cell? ⟨g, off + i, none⟩ = some (.slice (some ⟨yg, yo, none⟩) Y.length c) := KA.cell c0' id
                        have yh1 : (w5.alloc (.cells #[.slice ra R.length rc] 22)).cell? ⟨yg, yo, none⟩ = some (.int .i64 y1) := KA.cell yh' id
                        have HC := Lib.hid (number5 (RdLs.one (heap_alloc_new w5 (.cells #[.slice ra R.length rc] 22)) ((f1.alloc (.cells #[.slice ra R.length rc] 22)).rd)) y1)
                        rw [numI_one, if_pos HR2.out] at HC
                        have HKE : Hid (Kept (fun _ => False) w3 (w5.alloc (.cells #[.slice ra R.length rc] 22))) := Lib.hid ((hK.out.trans' f2 (fun _ _ h => h)).trans' KA (fun _ _ h => h))
                        have hy0 : (0 : Int) < (Y.length : Int) := by omega
                        clear y0 yh c0 f1 f2 f3 KA
                        go_wp2_with fail
                        refine HC.out.mono ?_
                        rintro e w6 ⟨rfl, rfl⟩
                        go_wp2
                        go_roundw
                        case rel => exact ⟨j + 1, by omega, by go_num, HKE⟩
                        case measure => simp [intOf]; omega
                      · have hji : ¬ (j : Int) < (Y.length : Int) := by omega
                        clear hlj ho
                        go_wp2
                        go_roundw
                        case rel => exact ⟨i + 1, by have := HLT.out; omega, by go_num, hK⟩
                        case measure => have := HLT.out; simp [intOf]; omega
                  · have HQ := Lib.hid (below_step HB3.out (Nat.le_refl _) hK.out (fun _ h => h.elim))
                    have hii : ¬ (i : Int) < (G.length : Int) := by omega
                    clear hK hlt
                    go_wp2
                    go_ret
                    exact ⟨rfl, HQ.out⟩
  · have HO0 : gOut nodes uses = [] := by
      unfold gOut
      rw [if_neg (by rcases hE with h | h <;> rw [h] <;> decide)]
    rw [HO0]
    clear hl hk hb g3 g2 g1 HO0
    rcases hE with h | h
    · rw [h]
      clear h
      go_wp2
      go_ret
      exact ⟨rfl, HB3.out⟩
    · rw [h]
      clear h
      go_wp2
      go_ret
      exact ⟨rfl, HB3.out⟩

set_option maxRecDepth 100000 in
theorem orderParts_calls : LawCalls Try.prog 7 Try.f7 := by
  intro H enc W args ds ps hval hA hsz
  rw [Try.params7] at hA hval hsz
  obtain ⟨v0, v1, d0, d1, p0, p1, rfl, rfl, _, h0, h1⟩ := trodAll_two hA
  obtain ⟨base0, hok0⟩ := hval 0 _ v0 rfl rfl
  obtain ⟨base1, hok1⟩ := hval 1 _ v1 rfl rfl
  obtain ⟨xs, hx, _, _⟩ := open_ints_arg hok0 h0
  obtain ⟨rows, hr, _, _, _⟩ := open_arrays_arg (m0 := 2) Try.underlying23 Try.underlying31 Try.underlying3 (by kernel_rfl) (by kernel_rfl) hok1 h1
  exact orderParts_walk v0 v1 xs (rows.map prOf) W hx (rdPairs hr)

end Go.Proofs.Ytncloielmfplpaa
