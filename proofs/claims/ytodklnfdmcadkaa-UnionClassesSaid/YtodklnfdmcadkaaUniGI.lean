/- The union's methods at one type: Find, Get, Put, Join. -/
import Derived.Test.YtodklnfdmcadkaaUniI
namespace Go.Proofs.Ytodklnfdmcadkaa
open Go.RowKit
set_option linter.unusedVariables false
set_option linter.unusedSimpArgs false

section
variable {p : Value} {F : Nat → Prop} {ρ : Nat → Nat} {vals : List (Int)} {w : World}

/-- least at whatever number. -/
theorem uniLeastI (h : UniI w p F ρ vals) (i : Int) :
    Calls Try.prog 39 #[p, .int .i64 i] w fun e w' => ((i < 0 ∨ (vals.length : Int) ≤ i) ∧ e = .returned (.tuple #[.int .i64 0, .int .i64 2]) ∧ w = w') ∨
      ∃ j : Nat, i = j ∧ j < vals.length ∧ e = .returned (.tuple #[.int .i64 (ρ j : Int), .int .i64 0]) ∧ UniI w' p F ρ vals ∧ Kept F w w' := by
  by_cases hi : i < 0 ∨ (vals.length : Int) ≤ i
  · exact (uniLeast0I h hi).mono fun e w' h => .inl ⟨hi, h.1, h.2⟩
  · obtain ⟨j, rfl⟩ := Int.eq_ofNat_of_zero_le (show 0 ≤ i by omega)
    have hj : j < vals.length := by omega
    exact (uniLeast1I h hj).mono fun e w' h => .inr ⟨j, rfl, hj, h.1, h.2⟩

theorem uniFindI (h : UniI w p F ρ vals) (i : Int) :
    Calls Try.prog 18 #[p, .int .i64 i] w fun e w' => ((i < 0 ∨ (vals.length : Int) ≤ i) ∧ e = .returned (.tuple #[.int .i64 0, .int .i64 2]) ∧ w = w') ∨
      ∃ j : Nat, i = j ∧ j < vals.length ∧ e = .returned (.tuple #[.int .i64 (ρ j : Int), .int .i64 0]) ∧ UniI w' p F ρ vals ∧ Kept F w w' := by
  have HP := Lib.hid (uniLeastI h i)
  clear h
  go_enter Try.func18, Try.ntmps18
  go_wp2_with fail
  refine HP.out.mono ?_
  rintro e w' (⟨hn, rfl, rfl⟩ | ⟨j, rfl, hj, rfl, hu, hk⟩)
  · have HN := Lib.hid hn
    clear hn
    go_wp2
    go_ret2
    exact .inl ⟨HN.out, rfl, rfl⟩
  · have HN := Lib.hid (And.intro hu hk)
    have HJ := Lib.hid hj
    clear hu hk hj
    go_wp2
    go_ret2
    exact .inr ⟨j, rfl, HJ.out, rfl, HN.out⟩

/-- A root's cell. -/
theorem uniCellI (h : UniI w p F ρ vals) {j : Nat} (hj : j < vals.length) :
    ∃ (cs : List (Cel (Int))) (sb g off c : Nat), ∃ (h0 : ρ j < cs.length), p = .pointer (some ⟨sb, 0, none⟩) ∧ cs.length = vals.length ∧ w.cell? ⟨sb, 0, none⟩ = some (.slice (some ⟨g, off, none⟩) cs.length c) ∧ cs.length ≤ c ∧ c ≤ maxLen ∧ g < w.heap.size ∧
      w.cell? ⟨g, off + ρ j * 3 + 2, none⟩ = some (encI (cs[ρ j]'h0).2.2) ∧ w.frozen? ⟨g, off + ρ j * 3 + 2, none⟩ = false ∧ vals[ρ j]? = some (cs[ρ j]'h0).2.2 ∧
      (∀ x, ∃ w', w' = w.setCell ⟨g, off + ρ j * 3 + 2, none⟩ (encI x) ∧ UniI w' p F ρ (vals.set (ρ j) x) ∧ Kept F w w') := by
  obtain ⟨cs, ⟨sb, v, rfl, h1, hown, hv1, hF⟩, hinv, hring, rfl⟩ := h
  rw [List.length_map] at hj
  have h0 : ρ j < cs.length := Nat.lt_of_le_of_lt (hinv.le j hj) hj
  obtain ⟨g, off, c, rfl, q1, q2, hcl, hfz, hg⟩ := hown.elt (by omega)
  refine ⟨cs, sb, g, off, c, h0, rfl, by simp, cell_of h1 rfl, q1, q2, hg, ?_, hfz _, by simp [h0], fun x => ⟨_, rfl, ?_, ?_⟩⟩
  · exact hcl (ρ j * 3 + 2) _ (by have := cellsOf_encC_get encI cs h0 (j := 2) (by omega); exact this)
  · have hset := hown.setAt (j := ρ j * 3 + 2) (by omega) (encI x)
    rw [cellsOf_encC_set encI cs h0 (j := 2) (by omega) (encI x) (cs[ρ j].1, cs[ρ j].2.1, x) rfl] at hset
    have hgs : sb ≠ g := fun e => hv1 (by simp [Value.ownBlock, e])
    refine ⟨cs.set (ρ j) (cs[ρ j].1, cs[ρ j].2.1, x), ⟨sb, _, rfl, ?_, ?_, hv1, hF⟩, ?_, ?_, ?_⟩
    · rw [List.length_set]
      exact (heap_set_ne (p := ⟨g, off + ρ j * 3 + 2, none⟩) hgs _).trans h1
    · rw [List.length_set]; exact hset
    · have key : ∀ k (hk : k < cs.length), ((cs.set (ρ j) (cs[ρ j].1, cs[ρ j].2.1, x))[k]'(by simpa using hk)).1 = cs[k].1 := fun k hk => by
        rw [List.getElem_set]
        split
        · rename_i e; subst e; rfl
        · rfl
      refine ⟨fun k hk => hinv.le k (by simpa using hk), fun k hk => hinv.idem k (by simpa using hk), fun k hk => ?_, fun k hk => ?_, fun k hk => ?_⟩
      all_goals
        rw [List.length_set] at hk
        rw [key k hk]
        first
          | exact hinv.upLe k hk
          | exact hinv.upRep k hk
          | exact hinv.fix k hk
    · obtain ⟨tl, hr⟩ := hring
      have hnx : nx (cs.set (ρ j) (cs[ρ j].1, cs[ρ j].2.1, x)) = nx cs := by
        funext y
        unfold nx
        rw [List.getElem?_set]
        split
        · rename_i e; subst e; simp [h0]
        · rfl
      refine ⟨tl, fun a ha hra => ?_⟩
      rw [List.length_set] at ha ⊢
      rw [hnx]
      exact hr a ha hra
    · rw [List.map_set]
  · exact (Kept.refl F w).setCell (fun _ => (hF g).2 (.inr (by simp [Value.ownBlock]))) _

theorem uniGetI (h : UniI w p F ρ vals) (i : Int) :
    Calls Try.prog 19 #[p, .int .i64 i] w fun e w' => ((i < 0 ∨ (vals.length : Int) ≤ i) ∧ e = .returned (.tuple #[.int .i64 0, .int .i64 2]) ∧ w = w') ∨
      ∃ (j : Nat) (x : Int), i = j ∧ j < vals.length ∧ vals[ρ j]? = some x ∧ e = .returned (.tuple #[encI x, .int .i64 0]) ∧ UniI w' p F ρ vals ∧ Kept F w w' := by
  have HP := Lib.hid (uniLeastI h i)
  clear h
  unfold encI at *
  go_enter Try.func19, Try.ntmps19
  go_wp2_with fail
  refine HP.out.mono ?_
  rintro e w' (⟨hn, rfl, rfl⟩ | ⟨j, rfl, hj, rfl, hu, hk⟩)
  · have HN := Lib.hid hn
    clear hn
    go_wp2
    go_ret2
    exact .inl ⟨HN.out, rfl, rfl⟩
  · obtain ⟨cs, sb, g, off, c, h0, rfl, hlen, c0, q1, q2, hg, e0, f0, hval, _⟩ := uniCellI hu hj
    have HN := Lib.hid (And.intro hu hk)
    have HJ := Lib.hid hj
    have HV := Lib.hid hval
    generalize cs[ρ j].2.2 = x at e0 HV
    unfold encI at e0
    unfold maxLen at q2
    have hi1 : (ρ j : Int) < (cs.length : Int) := by omega
    clear hu hk hj hval
    go_wp2
    go_ret2
    exact .inr ⟨j, x, rfl, HJ.out, HV.out, rfl, HN.out⟩

theorem uniPutI (h : UniI w p F ρ vals) (i : Int) (x : Int) :
    Calls Try.prog 25 #[p, .int .i64 i, encI x] w fun e w' => ((i < 0 ∨ (vals.length : Int) ≤ i) ∧ e = .returned (.int .i64 2) ∧ w = w') ∨
      ∃ (j : Nat), i = j ∧ j < vals.length ∧ e = .returned (.int .i64 0) ∧ UniI w' p F ρ (vals.set (ρ j) x) ∧ Kept F w w' := by
  have HP := Lib.hid (uniLeastI h i)
  clear h
  have hex : encI x = encI x := rfl
  unfold encI at *
  go_enter Try.func25, Try.ntmps25
  go_wp2_with fail
  refine HP.out.mono ?_
  rintro e w' (⟨hn, rfl, rfl⟩ | ⟨j, rfl, hj, rfl, hu, hk⟩)
  · have HN := Lib.hid hn
    clear hn
    go_wp2
    go_ret
    exact .inl ⟨HN.out, rfl, rfl⟩
  · obtain ⟨cs, sb, g, off, c, h0, rfl, hlen, c0, q1, q2, hg, e0, f0, hval, hset⟩ := uniCellI hu hj
    obtain ⟨w3, hw3, hs1, hs2⟩ := hset x
    have HN := Lib.hid (And.intro hs1 hs2)
    have HK := Lib.hid hk
    have HJ := Lib.hid hj
    have HW := Lib.hid hw3
    generalize cs[ρ j].2.2 = y at e0
    unfold encI at e0
    unfold maxLen at q2
    have hi1 : (ρ j : Int) < (cs.length : Int) := by omega
    clear hu hk hj hval hs1 hs2 hset hw3
    go_wp2
    go_ret
    have hw3 := HW.out
    subst hw3
    exact .inr ⟨j, rfl, HJ.out, rfl, HN.out.1, HK.out.trans HN.out.2⟩

end

end Go.Proofs.Ytodklnfdmcadkaa
