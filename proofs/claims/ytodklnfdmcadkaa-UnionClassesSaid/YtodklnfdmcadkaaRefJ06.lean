/- The reference's sets: Add, Join, Class, Count. -/
import Derived.Test.YtodklnfdmcadkaaRef06
namespace Go.Proofs.Ytodklnfdmcadkaa
open Go.RowKit
set_option linter.unusedVariables false
set_option linter.unusedSimpArgs false

section
variable {w : World} {p : Value} {F : Nat → Prop} {ρ : Nat → Nat} {vals : List Int}

theorem roots_step {k : Nat} (ρ : Nat → Nat) : roots (k + 1) ρ = roots k ρ + (if ρ k = k then 1 else 0) := by
  unfold roots
  rw [List.range_succ, List.filter_append, List.length_append]
  by_cases h : ρ k = k <;> simp [h]

set_option maxHeartbeats 400000 in
theorem runCount (h : RUn w p F ρ vals) :
    Calls Try.prog 27 #[p] w fun e w' => e = .returned (.int .i64 (roots vals.length ρ : Int)) ∧ w = w' := by
  obtain ⟨rb, v, u, rfl, h1, hown, hou, hv0, hu, hvu, hlt0, hF⟩ := h
  obtain ⟨a, c, rfl, a1, a2, a3⟩ := hown.shape
  have c0 : w.cell? ⟨rb, 0, none⟩ = some (.slice a vals.length c) := cell_of h1 rfl
  have HO := Lib.hid hown
  have hml : vals.length ≤ 9223372036854775807 := by unfold maxLen at a2; omega
  clear h1 hown hou hv0 hu hvu hlt0 hF a3 a2
  go_enter Try.func27, Try.ntmps27
  go_wp2
  go_loop [3, 4] (fun s i => ∃ k : Nat, k ≤ vals.length ∧ i = .int .i64 k ∧ s = .int .i64 (roots k ρ : Int)) (fun _ i => vals.length - (intOf i).toNat)
  case atStart => exact ⟨0, Nat.zero_le _, rfl, rfl⟩
  case round =>
    obtain ⟨k, hk, rfl, rfl⟩ := hrel
    have hrl := roots_le k ρ
    by_cases hlt : k < vals.length
    · obtain ⟨g, off, cap, hv, _, q2, hcl, _, hg⟩ := HO.out.elt (by omega)
      simp only [Value.slice.injEq, true_and] at hv
      obtain ⟨rfl, rfl⟩ := hv
      have e0 : w.cell? ⟨g, off + k, none⟩ = some (.int .i64 (ρ k : Int)) := hcl k _ (by simp [cellsOf_encI, lst, hlt, encI])
      have hi1 : (k : Int) < (vals.length : Int) := by omega
      have hst := Lib.hid (roots_step (k := k) ρ)
      clear hcl
      by_cases hc : ρ k = k
      · have hb : ((ρ k : Int) == (k : Int)) = true := by simp [hc]
        have hst' := Lib.hid (show roots (k + 1) ρ = roots k ρ + 1 by have := hst.out; rw [if_pos hc] at this; exact this)
        generalize roots k ρ = r at hrl hst' ⊢
        generalize ρ k = x at e0 hb
        clear hst hc
        go_wp2
        go_round
        case rel => exact ⟨k + 1, by omega, by go_num, by rw [hst'.out]; go_num⟩
        case measure => simp [intOf]; omega
      · have hb : ((ρ k : Int) == (k : Int)) = false := by simp; omega
        have hst' := Lib.hid (show roots (k + 1) ρ = roots k ρ by have := hst.out; rw [if_neg hc] at this; exact this)
        generalize roots k ρ = r at hrl hst' ⊢
        generalize ρ k = x at e0 hb
        clear hst hc
        go_wp2
        go_round
        case rel => exact ⟨k + 1, by omega, by go_num, by rw [hst'.out]⟩
        case measure => simp [intOf]; omega
    · obtain rfl : k = vals.length := by omega
      go_wp2
      go_ret
      exact ⟨rfl, rfl⟩

set_option maxRecDepth 100000 in
set_option maxHeartbeats 1000000 in
theorem runClass (h : RUn w p F ρ vals) (i : Int) (hn : vals.length * 8 ≤ 140737488355328) :
    Calls Try.prog 15 #[p, .int .i64 i] w fun e w' => ((i < 0 ∨ (vals.length : Int) ≤ i) ∧ e = .returned (.tuple #[.slice none 0 0, .int .i64 2]) ∧ w = w') ∨
      ∃ (j : Nat) (v : Value), i = j ∧ j < vals.length ∧ e = .returned (.tuple #[v, .int .i64 0]) ∧ Fresh w w' 3 1 v (clsOf vals.length ρ (ρ j)).length (cellsOf encI (clsOf vals.length ρ (ρ j))) := by
  have HL := Lib.hid (runLies h i)
  obtain ⟨rb, v, u, rfl, h1, hown, hou, hv0, hu, hvu, hlt0, hF⟩ := h
  obtain ⟨a, c, rfl, a1, a2, a3⟩ := hown.shape
  by_cases hi : 0 ≤ i ∧ i < (vals.length : Int)
  · obtain ⟨j, rfl⟩ := Int.eq_ofNat_of_zero_le hi.1
    have hj : j < vals.length := by omega
    have hd : decide (0 ≤ (j : Int) ∧ (j : Int) < (vals.length : Int)) = true := by simpa using hi
    rw [hd] at HL
    have HJ := Lib.hid hj
    have HO := Lib.hid hown
    have H1 := Lib.hid h1
    have HN := Lib.hid hn
    have hml : vals.length ≤ 9223372036854775807 := by unfold maxLen at a2; omega
    have hi1 : (j : Int) < (vals.length : Int) := by omega
    clear h1 hown hou hv0 hu hvu hlt0 hF a3 a2 hd hi hn
    go_enter Try.func15, Try.ntmps15
    go_wp2_with fail
    refine HL.out.mono ?_
    rintro e w' ⟨rfl, rfl⟩
    go_wp2
    go_loopw [6, 7] (fun lv i w2 => ∃ k : Nat, k ≤ vals.length ∧ i = .int .i64 k ∧ Hid (Own w2 3 1 lv (clsOf k ρ (ρ j)).length (cellsOf encI (clsOf k ρ (ρ j))) ∧ Kept (fun _ => False) w w2 ∧ ∀ b, lv.ownBlock = some b → w.heap.size ≤ b)) (fun _ i _ => vals.length - (intOf i).toNat)
    case atStart => exact ⟨0, Nat.zero_le _, rfl, Lib.hid ⟨Own.nil _ _ _, Kept.refl _ _, by simp [Value.ownBlock]⟩⟩
    case round =>
      obtain ⟨k, hk, rfl, hH⟩ := hrel
      obtain ⟨ho, hkk, hnew⟩ := hH.out
      obtain ⟨la, lc, rfl, n1, n2, n3⟩ := ho.shape
      have hb0 := (hkk.block rb (heap_lt H1.out) id).trans H1.out
      have d0 : wr.cell? ⟨rb, 0, none⟩ = some (.slice a vals.length c) := cell_of hb0 rfl
      by_cases hlt : k < vals.length
      · obtain ⟨g, off, cap, hv, _, q2, hcl, _, hg⟩ := (HO.out.frame hkk (fun _ _ => id)).elt (by omega)
        simp only [Value.slice.injEq, true_and] at hv
        obtain ⟨rfl, rfl⟩ := hv
        have hj := HJ.out
        have e0 : wr.cell? ⟨g, off + k, none⟩ = some (.int .i64 (ρ k : Int)) := hcl k _ (by simp [cellsOf_encI, lst, hlt, encI])
        have e1 : wr.cell? ⟨g, off + j, none⟩ = some (.int .i64 (ρ j : Int)) := hcl j _ (by simp [cellsOf_encI, lst, hj, encI])
        have hi2 : (k : Int) < (vals.length : Int) := by omega
        have hstep := clsStepI (k := k) (a := ρ j) ρ
        have hcle := clsLeI k ρ (ρ j)
        generalize hY : clsOf k ρ (ρ j) = Y at ho n1 n2 n3 hstep hcle hnew ⊢
        have HO2 := Lib.hid ho
        have HK2 := Lib.hid hkk
        have HN2 := Lib.hid hnew
        clear hH ho hkk hnew hcl n3 hY hb0
        by_cases hc : ρ k = ρ j
        · rw [if_pos hc] at hstep
          have hb : ((ρ k : Int) == (ρ j : Int)) = true := by simp [hc]
          have HST := Lib.hid hstep
          have HT : Hid (Fits (Y.length + 1) 8) := Lib.hid (fits_of (by have := HN.out; omega) (by decide))
          clear hc hstep hcle
          go_wp2_with fail
          go_quiet (fail)
          have HO3 : Hid (Own (wr.drewN nq) 3 1 (.slice la Y.length lc) Y.length (cellsOf encI Y)) := Lib.hid HO2.out
          have HK3 := Lib.hid (HK2.out.drewN nq)
          change Hid (Kept (fun _ => False) w (wr.drewN nq)) at HK3
          clear d0 e0 e1 HO2 HK2 hg
          generalize wr.drewN nq = wB at HO3 HK3 ⊢
          go_wp2_with (first
            | (at_builtin; refine wpList_append slInt (v := .slice la Y.length lc) (vx := .slice (some ⟨wB.heap.size, 0, none⟩) 1 1) (news := [.int .i64 (k : Int)]) (m := 1) rfl _ _ rfl rfl rfl (HO3.out.alloc _) (Own.rd (Own.fresh (n := 1) (by rfl) (by decide))) (by simp [Value.oneCell']) HT.out ?_
               intro v3 w3 hown3 hk3 hb3 _))
          have Q := Lib.hid (show Own w3 3 1 v3 (clsOf (k + 1) ρ (ρ j)).length (cellsOf encI (clsOf (k + 1) ρ (ρ j))) ∧ Kept (fun _ => False) w w3 ∧ ∀ b, v3.ownBlock = some b → w.heap.size ≤ b from by
            rw [HST.out, cellsOf_append, List.length_append]
            refine ⟨hown3, (HK3.out.alloc _).trans' hk3 (fun i hi h => by have := HN2.out i h; omega), fun b h => ?_⟩
            rcases hb3 b h with h | h
            · exact HN2.out b h
            · have := HK3.out.size
              simp at h
              omega)
          clear hown3 hk3 hb3
          go_wp2
          go_roundw
          case rel => exact ⟨k + 1, by omega, by go_num, Q⟩
          case measure => simp [intOf]; omega
        · rw [if_neg hc, List.append_nil] at hstep
          have hb : ((ρ k : Int) == (ρ j : Int)) = false := by simp; omega
          have Q := Lib.hid (show ∀ n, Own (wr.drewN n) 3 1 (.slice la Y.length lc) (clsOf (k + 1) ρ (ρ j)).length (cellsOf encI (clsOf (k + 1) ρ (ρ j))) ∧ Kept (fun _ => False) w (wr.drewN n) ∧ ∀ b, (Value.slice la Y.length lc).ownBlock = some b → w.heap.size ≤ b from by
            intro n
            rw [hstep]
            exact ⟨HO2.out, HK2.out.drewN n, HN2.out⟩)
          clear hc hstep hcle
          go_wp2_with fail
          go_quiet (fail)
          have Q' := Lib.hid (Q.out nq)
          go_wp2
          go_roundw
          case rel => exact ⟨k + 1, by omega, by go_num, Q'⟩
          case measure => simp [intOf]; omega
      · obtain rfl : k = vals.length := by omega
        have HO2 := Lib.hid ho
        have HK2 := Lib.hid hkk
        have HN2 := Lib.hid hnew
        clear hH ho hkk hnew n3 hlt hb0
        go_wp2
        go_ret2
        exact .inr ⟨j, _, rfl, HJ.out, rfl, HO2.out, HK2.out, HN2.out⟩
  · have hd : decide (0 ≤ i ∧ i < (vals.length : Int)) = false := by simpa using hi
    rw [hd] at HL
    have HI := Lib.hid (show i < 0 ∨ (vals.length : Int) ≤ i by omega)
    clear h1 hown hou hv0 hu hvu hlt0 hF a3 hd hi
    go_enter Try.func15, Try.ntmps15
    go_wp2_with fail
    refine HL.out.mono ?_
    rintro e w' ⟨rfl, rfl⟩
    go_wp2
    go_ret2
    exact .inl ⟨HI.out, rfl, rfl⟩

end

end Go.Proofs.Ytodklnfdmcadkaa
