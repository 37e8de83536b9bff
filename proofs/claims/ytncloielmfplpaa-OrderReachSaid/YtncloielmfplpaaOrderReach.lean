/- The walk of OrderReach. -/
import Derived.Test.YtncloielmfplpaaRch5
import Derived.Test.YtncloielmfplpaaReachAI
import Derived.Test.YtncloielmfplpaaWakes5
import Derived.Deep.QuietTactic
namespace Go.Proofs.Ytncloielmfplpaa
open Go.ChangeShapes Go.WideShapes Go.ChangeAt Go.RowKit
set_option linter.unusedVariables false
set_option linter.unusedSimpArgs false

set_option maxRecDepth 100000 in
set_option maxHeartbeats 8000000 in
theorem orderReach_walk (nv uv : Value) (nodes : List Int) (uses : List (Int × Int)) (x : Int) (w : World) (hn : Rd w 1 nv nodes.length (cellsOf encI nodes)) (hu : Rd w 2 uv uses.length (cellsOf encPrI uses)) :
    Calls Try.prog 3 #[nv, uv, .int .i64 x] w fun e w' => e = .returned (.bool true) ∧ Below w.heap.size w w' := by
  obtain ⟨na, nc, rfl, n1, n2, n3⟩ := hn.2
  obtain ⟨ua, uc, rfl, u1, u2, u3⟩ := hu.2
  have HN := Lib.hid hn
  have HU := Lib.hid hu
  have N3 := Lib.hid n3.1
  have U3 := Lib.hid u3.1
  unfold maxLen at n2 u2
  clear hn hu n3 u3
  by_cases hf : ¬ (nodes.length ≤ 100 ∧ uses.length ≤ 1000)
  · go_enter Try.func3, Try.ntmps3
    go_wp2_with fail
    refine (wakes5 w).mono ?_
    rintro e w1 ⟨rfl, hb1⟩
    go_wp2_with fail
    refine (fewN (w := w1) (na := na) (nc := nc) (ua := ua) (uc := uc) hf).mono ?_
    rintro e w2 ⟨rfl, rfl⟩
    go_wp2
    go_ret
    exact ⟨rfl, hb1⟩
  have hf1 : nodes.length ≤ 100 := by omega
  have hf2 : uses.length ≤ 1000 := by omega
  clear hf
  go_enter Try.func3, Try.ntmps3
  go_wp2_with fail
  refine (wakes5 w).mono ?_
  rintro e w1 ⟨rfl, hb1⟩
  have HB1 := Lib.hid hb1
  have HN1 := Lib.hid (HN.out.later hb1)
  have HU1 := Lib.hid (HU.out.later hb1)
  clear hb1
  go_wp2_with fail
  refine (fewY (w := w1) (na := na) (nc := nc) (ua := ua) (uc := uc) hf1 hf2).mono ?_
  rintro e w2 ⟨rfl, rfl⟩
  go_wp2_with fail
  refine (reachAllI HN1.out HU1.out hf1 hf2 x).mono ?_
  rintro e w2 ⟨rv, rfl, ho, hk, hb⟩
  obtain ⟨ra, rc, rfl, r1, r2, r3⟩ := ho.shape
  have R3 := Lib.hid r3
  have HB2 := Lib.hid (below_step HB1.out (Nat.le_refl _) hk (fun _ h => h.elim))
  have HU2 := Lib.hid (HU1.out.frame hk (fun _ _ => id))
  clear r3 hb
  by_cases he : rErr nodes uses x = 0
  · have HFR : Hid (∀ y ∈ rOut nodes uses x, y = x ∨ ∃ u ∈ uses, u.2 = y ∧ u.1 ≠ y ∧ u.1 ∈ rOut nodes uses x) := Lib.hid fun y hy => reach_from he hy
    have HNX : Hid (∀ u ∈ uses, u.1 ∈ rOut nodes uses x → u.2 ∈ rOut nodes uses x) := Lib.hid fun u hu h1 => reach_next he hu h1
    have HSF : Hid (x ∈ rOut nodes uses x) := Lib.hid (reach_self he)
    have hrl := rOut_le (nodes := nodes) (uses := uses) (x := x)
    have HO := Lib.hid ho
    rw [he]
    generalize rOut nodes uses x = R at HFR HNX HSF HO r1 r2 R3 hrl ⊢
    have hrc : rc ≤ 9223372036854775807 := by unfold maxLen at r2; omega
    clear ho hk he
    go_wp2_with fail
    have hnew := heap_alloc_new w2 (.cells #[.slice ra R.length rc] 22)
    have KA := (Kept.refl (fun _ => False) w2).alloc (.cells #[.slice ra R.length rc] 22)
    have hoA := HO.out.alloc (.cells #[.slice ra R.length rc] 22)
    have HLS := Lib.hid (RdLs.one hnew hoA.rd)
    have HOA := Lib.hid hoA
    have HUA := Lib.hid (HU2.out.frame KA (fun _ _ => id))
    have HBA := Lib.hid (below_step HB2.out (Nat.le_refl _) KA (fun _ h => h.elim))
    generalize w2.alloc (.cells #[.slice ra R.length rc] 22) = w3 at HLS HOA HUA HBA ⊢
    generalize w2.heap.size = lb at HLS ⊢
    have HNUM : Hid (∀ wx, Kept (fun _ => False) w3 wx → ∀ k, Calls Try.prog 11 #[.slice (some ⟨lb, 0, none⟩) 1 1, .int .i64 k] wx fun e w' => e = .returned (.int .i64 (if k ∈ R then 0 else -1)) ∧ wx = w') := Lib.hid fun wx hk k => by
      obtain ⟨vs, h1, h2, h3⟩ := HLS.out
      have := number5 (w := wx) ⟨vs, h1.frame hk (fun _ _ => id), h2, fun i hi hi' => (h3 i hi hi').frame hk (fun _ _ => id)⟩ k
      rw [numI_one] at this
      exact this
    clear hnew KA hoA HB1 HN1 HU1 HB2 HU2 HO HLS
    refine (HNUM.out w3 (Kept.refl _ _) x).mono ?_
    rintro e w4 ⟨rfl, rfl⟩
    rw [if_pos HSF.out]
    go_wp2_with fail
    go_loopw [10] (fun y wr => ∃ k : Nat, k ≤ uses.length ∧ y = .int .i64 k ∧ w3 = wr) (fun y _ => uses.length - (intOf y).toNat)
    case atStart => exact ⟨0, Nat.zero_le _, rfl, rfl⟩
    case round =>
      obtain ⟨k, hk, rfl, rfl⟩ := hrel
      by_cases hlt : k < uses.length
      · cases ua with
        | none => exact absurd (U3.out rfl).1 (by omega)
        | some ad =>
          obtain ⟨p0, p1⟩ := rdPrI HUA.out hlt
          have hnx := HNX.out _ (List.getElem_mem hlt)
          generalize uses[k] = u at p0 p1 hnx
          obtain ⟨ua1, ua2⟩ := u
          simp only [encI] at p0 p1 hnx
          have hki : (k : Int) < (uses.length : Int) := by omega
          have hn1 := HNUM.out w3 (Kept.refl _ _) ua1
          by_cases hm : ua1 ∈ R
          · rw [if_pos hm] at hn1
            have hn2 := HNUM.out w3 (Kept.refl _ _) ua2
            rw [if_pos (hnx hm)] at hn2
            have H1 := Lib.hid hn1
            have H2 := Lib.hid hn2
            clear hn1 hn2 hnx hm hlt
            go_wp2_with fail
            refine H1.out.mono ?_
            rintro e w4 ⟨rfl, rfl⟩
            go_wp2_with fail
            refine H2.out.mono ?_
            rintro e w4 ⟨rfl, rfl⟩
            go_wp2
            go_roundw
            case rel => exact ⟨k + 1, by omega, by go_num, by trivial⟩
            case measure => simp [intOf]; omega
          · rw [if_neg hm] at hn1
            have H1 := Lib.hid hn1
            clear hn1 hnx hm hlt
            go_wp2_with fail
            refine H1.out.mono ?_
            rintro e w4 ⟨rfl, rfl⟩
            go_wp2
            go_roundw
            case rel => exact ⟨k + 1, by omega, by go_num, by trivial⟩
            case measure => simp [intOf]; omega
      · have hki : ¬ (k : Int) < (uses.length : Int) := by omega
        obtain rfl : k = uses.length := by omega
        clear hlt hk
        go_wp2_with fail
        go_loopw [11] (fun y wr => ∃ i : Nat, i ≤ R.length ∧ y = .int .i64 i ∧ Hid (Kept (fun _ => False) w3 wr)) (fun y _ => R.length - (intOf y).toNat)
        case atStart => exact ⟨0, Nat.zero_le _, rfl, Lib.hid (Kept.refl _ _)⟩
        case round =>
          obtain ⟨i, hi, rfl, hK⟩ := hrel
          by_cases hlt : i < R.length
          · have hii : (i : Int) < (R.length : Int) := by omega
            have hra : ∃ g off, ra = some ⟨g, off, none⟩ := by
              obtain ⟨g, off, cap, hv, _⟩ := HOA.out.elt (by omega)
              simp only [Value.slice.injEq] at hv
              exact ⟨g, off, hv.1⟩
            obtain ⟨g, off, rfl⟩ := hra
            have HCY : Hid (∀ wx, Kept (fun _ => False) w3 wx → wx.cell? ⟨g, off + i, none⟩ = some (.int .i64 R[i])) := Lib.hid fun wx hk => by
              obtain ⟨g', off', cap, hv, _, _, hcl, _, _⟩ := (HOA.out.frame hk (fun _ _ => id)).elt (by omega)
              simp only [Value.slice.injEq, Option.some.injEq, Addr.mk.injEq, and_true, true_and] at hv
              obtain ⟨⟨rfl, rfl⟩, rfl⟩ := hv
              exact hcl i _ (by rw [cellsEncI]; simp [hlt, encI])
            have hfr := HFR.out _ (List.getElem_mem hlt)
            generalize R[i] = y at HCY hfr
            have cy := HCY.out wr hK.out
            have HW0 : Hid ((y == x) = true ∨ ∃ t, ∃ h : t < uses.length, 0 ≤ t ∧ uses[t].2 = y ∧ uses[t].1 ≠ y ∧ uses[t].1 ∈ R) := Lib.hid (by
              rcases hfr with h | ⟨u, hu, h⟩
              · exact .inl (by simpa using h)
              · obtain ⟨t, ht, rfl⟩ := List.mem_iff_getElem.1 hu
                exact .inr ⟨t, ht, Nat.zero_le _, h⟩)
            clear hfr hlt
            go_wp2_with fail
            clear cy
            generalize (y == x) = b0 at HW0 ⊢
            go_loopw [12, 13] (fun bv y2 wr => ∃ j b, j ≤ uses.length ∧ bv = .bool b ∧ y2 = .int .i64 ((j : Nat) : Int) ∧ Hid (Kept (fun _ => False) w3 wr) ∧ Hid (b = true ∨ ∃ t, ∃ h : t < uses.length, j ≤ t ∧ uses[t].2 = y ∧ uses[t].1 ≠ y ∧ uses[t].1 ∈ R)) (fun _ y2 _ => uses.length - (intOf y2).toNat)
            case atStart => exact ⟨0, b0, Nat.zero_le _, rfl, rfl, hK, HW0⟩
            case round =>
              clear HW0 hK
              obtain ⟨j, b, hj, rfl, rfl, hK, hW⟩ := hrel
              by_cases hlj : j < uses.length
              · cases ua with
                | none => exact absurd (U3.out rfl).1 (by omega)
                | some ad =>
                  obtain ⟨p0, p1⟩ := rdPrI (HUA.out.frame hK.out (fun _ _ => id)) hlj
                  have cy := HCY.out _ hK.out
                  have hji : (j : Int) < (uses.length : Int) := by omega
                  have HST : Hid (∀ b', (b = true → b' = true) → (uses[j].2 = y → uses[j].1 ≠ y → uses[j].1 ∈ R → b' = true) → (b' = true ∨ ∃ t, ∃ h : t < uses.length, j + 1 ≤ t ∧ uses[t].2 = y ∧ uses[t].1 ≠ y ∧ uses[t].1 ∈ R)) := Lib.hid fun b' h1 h2 => by
                    rcases hW.out with h | ⟨t, ht, hjt, h3, h4, h5⟩
                    · exact .inl (h1 h)
                    · by_cases e : t = j
                      · subst e
                        exact .inl (h2 h3 h4 h5)
                      · exact .inr ⟨t, ht, by omega, h3, h4, h5⟩
                  generalize uses[j] = u at p0 p1 HST
                  obtain ⟨va, vb⟩ := u
                  simp only [encI] at p0 p1 HST
                  have HNQ : Hid (∀ n k, Calls Try.prog 11 #[.slice (some ⟨lb, 0, none⟩) 1 1, .int .i64 k] (wr.drewN n) fun e w' => e = .returned (.int .i64 (if k ∈ R then 0 else -1)) ∧ w' = wr.drewN n) := Lib.hid fun n k => (HNUM.out (wr.drewN n) (hK.out.drewN n) k).mono fun e w' h => ⟨h.1, h.2.symm⟩
                  have HKD : Hid (∀ n, Kept (fun _ => False) w3 (wr.drewN n)) := Lib.hid fun n => hK.out.drewN n
                  clear hW hlj
                  cases b with
                  | true =>
                    go_wp2_with fail
                    go_quiet (fail)
                    go_wp2
                    go_roundw
                    case rel => exact ⟨j + 1, true, by omega, rfl, by go_num, Lib.hid (HKD.out nq), Lib.hid (.inl rfl)⟩
                    case measure => simp [intOf]; omega
                  | false =>
                    by_cases h1 : vb = y
                    · subst h1
                      by_cases h2 : va = vb
                      · subst h2
                        have Q := HST.out false (fun h => h) (fun _ h _ => absurd rfl h)
                        have Q2 : Hid (false = true ∨ ∃ t, ∃ h : t < uses.length, j + 1 ≤ t ∧ uses[t].2 = va ∧ uses[t].1 ≠ va ∧ uses[t].1 ∈ R) := Lib.hid Q
                        clear Q
                        go_wp2_with fail
                        go_quiet (fail)
                        go_wp2
                        go_roundw
                        case rel => exact ⟨j + 1, false, by omega, rfl, by go_num, Lib.hid (HKD.out nq), Q2⟩
                        case measure => simp [intOf]; omega
                      · have hne : (va != vb) = true := by simpa using h2
                        by_cases h3 : va ∈ R
                        · have HC : Hid (∀ n, Calls Try.prog 11 #[.slice (some ⟨lb, 0, none⟩) 1 1, .int .i64 va] (wr.drewN n) fun e w' => e = .returned (.int .i64 0) ∧ w' = wr.drewN n) := Lib.hid fun n => by have := HNQ.out n va; rwa [if_pos h3] at this
                          clear h2 h3
                          go_wp2_with fail
                          go_quiet (exact Calls.quiet_of_same (HC.out _))
                          go_wp2
                          go_roundw
                          case rel => exact ⟨j + 1, true, by omega, rfl, by go_num, Lib.hid (HKD.out nq), Lib.hid (.inl rfl)⟩
                          case measure => simp [intOf]; omega
                        · have HC : Hid (∀ n, Calls Try.prog 11 #[.slice (some ⟨lb, 0, none⟩) 1 1, .int .i64 va] (wr.drewN n) fun e w' => e = .returned (.int .i64 (-1)) ∧ w' = wr.drewN n) := Lib.hid fun n => by have := HNQ.out n va; rwa [if_neg h3] at this
                          have Q2 : Hid (false = true ∨ ∃ t, ∃ h : t < uses.length, j + 1 ≤ t ∧ uses[t].2 = vb ∧ uses[t].1 ≠ vb ∧ uses[t].1 ∈ R) := Lib.hid (HST.out false (fun h => h) (fun _ _ h => absurd h h3))
                          clear h2 h3
                          go_wp2_with fail
                          go_quiet (exact Calls.quiet_of_same (HC.out _))
                          go_wp2
                          go_roundw
                          case rel => exact ⟨j + 1, false, by omega, rfl, by go_num, Lib.hid (HKD.out nq), Q2⟩
                          case measure => simp [intOf]; omega
                    · have hne : (vb == y) = false := by simpa using h1
                      have Q2 : Hid (false = true ∨ ∃ t, ∃ h : t < uses.length, j + 1 ≤ t ∧ uses[t].2 = y ∧ uses[t].1 ≠ y ∧ uses[t].1 ∈ R) := Lib.hid (HST.out false (fun h => h) (fun h _ _ => absurd h h1))
                      clear h1
                      go_wp2_with fail
                      go_quiet (fail)
                      go_wp2
                      go_roundw
                      case rel => exact ⟨j + 1, false, by omega, rfl, by go_num, Lib.hid (HKD.out nq), Q2⟩
                      case measure => simp [intOf]; omega
              · obtain rfl : j = uses.length := by omega
                have hbt : b = true := by
                  rcases hW.out with h | ⟨t, ht, h, _⟩
                  · exact h
                  · omega
                subst hbt
                have hji : ¬ (uses.length : Int) < (uses.length : Int) := by omega
                clear hW hlj hj
                go_wp2
                go_roundw
                case rel => exact ⟨i + 1, by omega, by go_num, hK⟩
                case measure => simp [intOf]; omega
          · have HQ := Lib.hid (below_step HBA.out (Nat.le_refl _) hK.out (fun _ h => h.elim))
            have hii : ¬ (i : Int) < (R.length : Int) := by omega
            clear hK hlt
            go_wp2
            go_ret
            exact ⟨rfl, HQ.out⟩
  · have HO0 := rOut_err he
    rw [HO0]
    have hne : ((rErr nodes uses x) != 0) = true := by simpa using he
    clear ho hk he
    generalize rErr nodes uses x = er at hne ⊢
    go_wp2
    go_ret
    exact ⟨rfl, HB2.out⟩

set_option maxRecDepth 100000 in
theorem orderReach_calls : LawCalls Try.prog 3 Try.f3 := by
  intro H enc W args ds ps hval hA hsz
  rw [Try.params3] at hA hval hsz
  obtain ⟨v0, v1, v2, d0, d1, d2, p0, p1, p2, rfl, rfl, _, h0, h1, h2⟩ := trodAll_three hA
  obtain ⟨base0, hok0⟩ := hval 0 _ v0 rfl rfl
  obtain ⟨base1, hok1⟩ := hval 1 _ v1 rfl rfl
  obtain ⟨base2, hok2⟩ := hval 2 _ v2 rfl rfl
  obtain ⟨xs, hx, _, _⟩ := open_ints_arg hok0 h0
  obtain ⟨rows, hr, _, _, _⟩ := open_arrays_arg (m0 := 2) Try.underlying23 Try.underlying31 Try.underlying3 (by kernel_rfl) (by kernel_rfl) hok1 h1
  obtain ⟨k, rfl, _, _, _⟩ := open_int Try.underlying3 hok2 h2
  exact orderReach_walk v0 v1 xs (rows.map prOf) k W hx (rdPairs hr)

end Go.Proofs.Ytncloielmfplpaa
