/- The reference's sets: Add, Join. -/
import Derived.Test.YtodklnfdmcadkaaRefJ06
namespace Go.Proofs.Ytodklnfdmcadkaa
open Go.RowKit
set_option linter.unusedVariables false
set_option linter.unusedSimpArgs false

section
variable {w : World} {p : Value} {F : Nat → Prop} {ρ : Nat → Nat} {vals : List Int}

def upToJ (ρ : Nat → Nat) (lo hi k : Nat) : Nat → Nat := fun x => if x < k then joinR ρ lo hi x else ρ x

set_option maxRecDepth 100000 in
set_option maxHeartbeats 1000000 in
theorem runJoin (h : RUn w p F ρ vals) (i j : Int) :
    Calls Try.prog 12 #[p, .int .i64 i, .int .i64 j] w fun e w' => (((i < 0 ∨ (vals.length : Int) ≤ i) ∨ (j < 0 ∨ (vals.length : Int) ≤ j)) ∧ e = .returned (.int .i64 2) ∧ w = w') ∨
      ∃ i' j' : Nat, i = i' ∧ j = j' ∧ i' < vals.length ∧ j' < vals.length ∧ e = .returned (.int .i64 0) ∧ RUn w' p F (joinN ρ i' j') vals ∧ Kept F w w' := by
  have HLi := Lib.hid (runLies h i)
  have HLj := Lib.hid (runLies h j)
  obtain ⟨rb, v, u, rfl, h1, hown, hou, hv0, hu, hvu, hlt0, hF⟩ := h
  obtain ⟨a, c, rfl, a1, a2, a3⟩ := hown.shape
  by_cases hi : 0 ≤ i ∧ i < (vals.length : Int)
  · have hd : decide (0 ≤ i ∧ i < (vals.length : Int)) = true := by simpa using hi
    rw [hd] at HLi
    by_cases hj : 0 ≤ j ∧ j < (vals.length : Int)
    · have hd : decide (0 ≤ j ∧ j < (vals.length : Int)) = true := by simpa using hj
      rw [hd] at HLj
      obtain ⟨i', rfl⟩ := Int.eq_ofNat_of_zero_le hi.1
      obtain ⟨j', rfl⟩ := Int.eq_ofNat_of_zero_le hj.1
      have hi' : i' < vals.length := by omega
      have hj' : j' < vals.length := by omega
      obtain ⟨g, off, cap, hv, _, q2, hcl, hfz, hg⟩ := hown.elt (by omega)
      simp only [Value.slice.injEq, true_and] at hv
      obtain ⟨rfl, rfl⟩ := hv
      have c0 : w.cell? ⟨rb, 0, none⟩ = some (.slice (some ⟨g, off, none⟩) vals.length c) := cell_of h1 rfl
      have e0 : w.cell? ⟨g, off + i', none⟩ = some (.int .i64 (ρ i' : Int)) := hcl i' _ (by simp [cellsOf_encI, lst, hi', encI])
      have e1 : w.cell? ⟨g, off + j', none⟩ = some (.int .i64 (ρ j' : Int)) := hcl j' _ (by simp [cellsOf_encI, lst, hj', encI])
      have hgr : rb ≠ g := fun e => hv0 (by simp [Value.ownBlock, e])
      have hbi := hlt0 i' hi'
      have hbj := hlt0 j' hj'
      have hml : vals.length ≤ 9223372036854775807 := by unfold maxLen at q2; omega
      have hi1 : (i' : Int) < (vals.length : Int) := by omega
      have hi2 : (j' : Int) < (vals.length : Int) := by omega
      clear hi hj
      rcases Nat.lt_or_ge (ρ j') (ρ i') with hlt | hlt
      case' inl =>
        have hjn : joinN ρ i' j' = joinR ρ (ρ j') (ρ i') := by unfold joinN; rw [Nat.min_eq_right (by omega), Nat.max_eq_left (by omega)]
        have hdc : decide ((ρ i' : Int) > (ρ j' : Int)) = true := by simp; omega
        have HJN := Lib.hid hjn
        generalize ρ i' = hi at *
        generalize ρ j' = lo at *
      case' inr =>
        have hjn : joinN ρ i' j' = joinR ρ (ρ i') (ρ j') := by unfold joinN; rw [Nat.min_eq_left (by omega), Nat.max_eq_right (by omega)]
        have hdc : decide ((ρ i' : Int) > (ρ j' : Int)) = false := by simp; omega
        have HJN := Lib.hid hjn
        generalize ρ i' = lo at *
        generalize ρ j' = hi at *
      all_goals
        have H1 := Lib.hid h1
        have HO := Lib.hid hown
        have HU := Lib.hid hou
        have HV0 := Lib.hid hv0
        have HUU := Lib.hid hu
        have HVU := Lib.hid hvu
        have HLT := Lib.hid hlt0
        have HF := Lib.hid hF
        have HIJ := Lib.hid (And.intro hi' hj')
        have HBL := Lib.hid hbi
        have HBR := Lib.hid hbj
        clear h1 hown hou hv0 hu hvu hlt0 hF a3 hcl hd hjn hfz hi' hj' hbi hbj
        go_enter Try.func12, Try.ntmps12
        go_wp2_with fail
        refine HLi.out.mono ?_
        rintro e w' ⟨rfl, rfl⟩
        go_wp2_with fail
        refine HLj.out.mono ?_
        rintro e w' ⟨rfl, rfl⟩
        go_wp2
        clear c0 e0 e1 hdc hi1 hi2 HLi HLj
        go_loopw [9] (fun i wr => ∃ k : Nat, k ≤ vals.length ∧ i = .int .i64 k ∧ Hid (Own wr 3 1 (.slice (some ⟨g, off, none⟩) vals.length c) vals.length (cellsOf encI (lst vals.length (upToJ ρ lo hi k))) ∧ Kept (fun b => b = g) w wr)) (fun i _ => vals.length - (intOf i).toNat)
        case atStart => exact ⟨0, Nat.zero_le _, rfl, Lib.hid ⟨by rw [show lst vals.length (upToJ ρ lo hi 0) = lst vals.length ρ from lst_congr (fun j _ => by simp [upToJ])]; exact HO.out, Kept.refl _ _⟩⟩
        case round =>
          obtain ⟨k, hk, rfl, hH⟩ := hrel
          obtain ⟨ho, hkk⟩ := hH.out
          have hb0 := (hkk.block rb (heap_lt H1.out) hgr).trans H1.out
          have d0 : wr.cell? ⟨rb, 0, none⟩ = some (.slice (some ⟨g, off, none⟩) vals.length c) := cell_of hb0 rfl
          by_cases hltk : k < vals.length
          · obtain ⟨g', off', cap, hv, _, _, hcl, hfz, _⟩ := ho.elt (by omega)
            simp only [Value.slice.injEq, Option.some.injEq, Addr.mk.injEq, true_and, and_true] at hv
            obtain ⟨⟨rfl, rfl⟩, rfl⟩ := hv
            have e0 : wr.cell? ⟨g, off + k, none⟩ = some (.int .i64 (ρ k : Int)) := hcl k _ (by simp [cellsOf_encI, lst, hltk, encI, upToJ])
            have f0 : wr.frozen? ⟨g, off + k, none⟩ = false := hfz _
            have hi2 : (k : Int) < (vals.length : Int) := by omega
            by_cases hc : ρ k = hi
            · have hb : ((ρ k : Int) == (hi : Int)) = true := by simp [hc]
              have hset := ho.setAt (j := k) (by omega) (.int .i64 (lo : Int))
              have hcs : (cellsOf encI (lst vals.length (upToJ ρ lo hi k))).set k (.int .i64 (lo : Int)) = cellsOf encI (lst vals.length (upToJ ρ lo hi (k + 1))) := by
                rw [← lst_set (ρ := upToJ ρ lo hi k) (ρ' := upToJ ρ lo hi (k + 1)) (k := k) (a := lo) (by simp [upToJ, joinR, hc]) (fun j hj => by
                  unfold upToJ
                  by_cases h1 : j < k
                  · rw [if_pos h1, if_pos (by omega)]
                  · rw [if_neg h1, if_neg (by omega)])]
                rw [cellsOf_encI, cellsOf_encI, List.map_set]
              rw [hcs] at hset
              have Q := Lib.hid (show Own (wr.setCell ⟨g, off + k, none⟩ (.int .i64 (lo : Int))) 3 1 (.slice (some ⟨g, off, none⟩) vals.length c) vals.length (cellsOf encI (lst vals.length (upToJ ρ lo hi (k + 1)))) ∧ Kept (fun b => b = g) w (wr.setCell ⟨g, off + k, none⟩ (.int .i64 (lo : Int))) from
                ⟨hset, hkk.setCell (fun _ => rfl) _⟩)
              generalize ρ k = y at e0 hb
              clear hH ho hkk hb0 hcl hfz hset hcs hc
              go_wp2
              go_roundw
              case rel => exact ⟨k + 1, by omega, by go_num, Q⟩
              case measure => simp [intOf]; omega
            · have hb : ((ρ k : Int) == (hi : Int)) = false := by simp; omega
              have hl : lst vals.length (upToJ ρ lo hi k) = lst vals.length (upToJ ρ lo hi (k + 1)) := lst_congr (fun j hj => by
                unfold upToJ
                by_cases h1 : j < k
                · rw [if_pos h1, if_pos (by omega)]
                · by_cases h2 : j = k
                  · subst h2; simp [joinR, hc]
                  · rw [if_neg h1, if_neg (by omega)])
              rw [hl] at ho
              have Q := Lib.hid (And.intro ho hkk)
              generalize ρ k = y at e0 hb
              clear hH ho hkk hb0 hcl hfz hc hl
              go_wp2
              go_roundw
              case rel => exact ⟨k + 1, by omega, by go_num, Q⟩
              case measure => simp [intOf]; omega
          · obtain rfl : k = vals.length := by omega
            rw [show lst vals.length (upToJ ρ lo hi vals.length) = lst vals.length (joinR ρ lo hi) from lst_congr (fun j hj => by simp [upToJ, hj])] at ho
            have HO2 := Lib.hid ho
            have HK2 := Lib.hid hkk
            have HB2 := Lib.hid hb0
            clear hH ho hkk hb0 hltk
            go_wp2
            go_ret
            refine .inr ⟨i', j', rfl, rfl, HIJ.out.1, HIJ.out.2, rfl, ?_, HK2.out.mono (fun b _ h => (HF.out b).2 (.inr (.inl (by simp [Value.ownBlock, h]))))⟩
            rw [HJN.out]
            refine ⟨rb, _, u, rfl, HB2.out, HO2.out, HU.out.frame HK2.out (fun b hb h => HVU.out g (by simp [Value.ownBlock]) (by rw [← h]; exact hb)), HV0.out, HUU.out, HVU.out, fun x hx => ?_, HF.out⟩
            unfold joinR
            have h3 := HLT.out x hx
            have h4 := HBL.out
            have h5 := HBR.out
            split <;> omega
    · have hd : decide (0 ≤ j ∧ j < (vals.length : Int)) = false := by simpa using hj
      rw [hd] at HLj
      have HI := Lib.hid (show j < 0 ∨ (vals.length : Int) ≤ j by omega)
      clear h1 hown hou hv0 hu hvu hlt0 hF a3 hd hi hj
      go_enter Try.func12, Try.ntmps12
      go_wp2_with fail
      refine HLi.out.mono ?_
      rintro e w' ⟨rfl, rfl⟩
      go_wp2_with fail
      refine HLj.out.mono ?_
      rintro e w' ⟨rfl, rfl⟩
      go_wp2
      go_ret
      exact .inl ⟨.inr HI.out, rfl, rfl⟩
  · have hd : decide (0 ≤ i ∧ i < (vals.length : Int)) = false := by simpa using hi
    rw [hd] at HLi
    have HI := Lib.hid (show i < 0 ∨ (vals.length : Int) ≤ i by omega)
    clear h1 hown hou hv0 hu hvu hlt0 hF a3 hd hi
    go_enter Try.func12, Try.ntmps12
    go_wp2_with fail
    refine HLi.out.mono ?_
    rintro e w' ⟨rfl, rfl⟩
    go_wp2
    go_ret
    exact .inl ⟨.inl HI.out, rfl, rfl⟩

end

end Go.Proofs.Ytodklnfdmcadkaa
