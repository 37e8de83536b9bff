/- The reference's sets: for each cell the least of its set, and the values. -/
import Derived.Test.YtodklnfdmcadkaaSameI
import Derived.Test.YtodklnfdmcadkaaUniCI
import Derived.Deep.SlicePairs
namespace Go.Proofs.Ytodklnfdmcadkaa
open Go.RowKit
set_option linter.unusedVariables false
set_option linter.unusedSimpArgs false

def lst (n : Nat) (ρ : Nat → Nat) : List Int := (List.range n).map fun (j : Nat) => (ρ j : Int)

theorem lst_length (n : Nat) (ρ : Nat → Nat) : (lst n ρ).length = n := by simp [lst]
theorem lst_get {n : Nat} (ρ : Nat → Nat) {j : Nat} (hj : j < n) : (lst n ρ)[j]'(by rw [lst_length]; exact hj) = (ρ j : Int) := by simp [lst]
theorem lst_add (n : Nat) (ρ : Nat → Nat) : lst (n + 1) (fun j => if j = n then n else ρ j) = lst n ρ ++ [(n : Int)] := by
  unfold lst
  rw [List.range_succ, List.map_append]
  congr 1
  · apply List.map_congr_left
    intro j hj
    have := List.mem_range.1 hj
    show (((if j = n then n else ρ j) : Nat) : Int) = _
    rw [if_neg (by omega)]
  · simp
theorem lst_congr {n : Nat} {ρ ρ' : Nat → Nat} (h : ∀ j, j < n → ρ j = ρ' j) : lst n ρ = lst n ρ' := by
  unfold lst
  apply List.map_congr_left
  intro j hj
  rw [h j (List.mem_range.1 hj)]
theorem lst_set {n : Nat} {ρ ρ' : Nat → Nat} {k a : Nat} (hk : ρ' k = a) (h : ∀ j, j ≠ k → ρ' j = ρ j) : (lst n ρ).set k (a : Int) = lst n ρ' := by
  apply List.ext_getElem (by simp [lst])
  intro i h1 h2
  simp only [lst, List.getElem_set, List.getElem_map, List.getElem_range]
  split
  · rename_i e; subst e; rw [hk]
  · rename_i e; rw [h i (Ne.symm e)]

/-- p points at a reference of the sets ρ with the values; F: its blocks. -/
def RUn (w : World) (p : Value) (F : Nat → Prop) (ρ : Nat → Nat) (vals : List Int) : Prop :=
  ∃ rb v u, p = .pointer (some ⟨rb, 0, none⟩) ∧ w.heap[rb]? = some (.cells #[v, u] 29 (0, 0)) ∧ Own w 3 1 v vals.length (cellsOf encI (lst vals.length ρ)) ∧ Own w 3 1 u vals.length (cellsOf encI vals) ∧ v.ownBlock ≠ some rb ∧ u.ownBlock ≠ some rb ∧
    (∀ b, v.ownBlock = some b → u.ownBlock ≠ some b) ∧ (∀ j, j < vals.length → ρ j < vals.length) ∧ ∀ b, F b ↔ (b = rb ∨ v.ownBlock = some b ∨ u.ownBlock = some b)

theorem RUn.lt {w : World} {p : Value} {F : Nat → Prop} {ρ : Nat → Nat} {vals : List Int} (h : RUn w p F ρ vals) {b : Nat} (hb : F b) : b < w.heap.size := by
  obtain ⟨rb, v, u, rfl, h1, h2, h3, _, _, _, _, hF⟩ := h
  rcases (hF b).1 hb with rfl | hv | hv
  · exact heap_lt h1
  · exact h2.lt hv
  · exact h3.lt hv

theorem RUn.frame {w w' : World} {p : Value} {F G : Nat → Prop} {ρ : Nat → Nat} {vals : List Int} (h : RUn w p F ρ vals) (hk : Kept G w w') (hd : ∀ b, F b → ¬ G b) : RUn w' p F ρ vals := by
  obtain ⟨rb, v, u, rfl, h1, h2, h3, h4, h5, h6, h7, hF⟩ := h
  exact ⟨rb, v, u, rfl, (hk.block rb (heap_lt h1) (hd _ ((hF _).2 (.inl rfl)))).trans h1, h2.frame hk (fun b hb => hd _ ((hF _).2 (.inr (.inl hb)))), h3.frame hk (fun b hb => hd _ ((hF _).2 (.inr (.inr hb)))), h4, h5, h6, h7, hF⟩

theorem RUn.made (w : World) : RUn (w.alloc (.cells #[.slice none 0 0, .slice none 0 0] 29)) (.pointer (some ⟨w.heap.size, 0, none⟩)) (fun b => b = w.heap.size) id [] :=
  ⟨w.heap.size, .slice none 0 0, .slice none 0 0, rfl, (by show (w.heap.push _)[w.heap.size]? = _; simp), Own.nil _ _ _, Own.nil _ _ _, by simp [Value.ownBlock], by simp [Value.ownBlock], by simp [Value.ownBlock], fun j hj => by simp at hj, fun b => by simp [Value.ownBlock]⟩

section
variable {w : World} {p : Value} {F : Nat → Prop} {ρ : Nat → Nat} {vals : List Int}

theorem runLen (h : RUn w p F ρ vals) :
    Calls Try.prog 26 #[p] w fun e w' => e = .returned (.int .i64 (vals.length : Int)) ∧ w = w' := by
  obtain ⟨rb, v, u, rfl, h1, hown, hou, hv, hu, hvu, hlt, hF⟩ := h
  obtain ⟨a, c, rfl, a1, a2, a3⟩ := hown.shape
  have c0 : w.cell? ⟨rb, 0, none⟩ = some (.slice a vals.length c) := cell_of h1 rfl
  clear h1 hown hou hv hu hvu hlt hF a3
  go_enter Try.func26, Try.ntmps26
  go_wp2
  go_ret
  exact ⟨rfl, rfl⟩

theorem runLies (h : RUn w p F ρ vals) (i : Int) :
    Calls Try.prog 38 #[p, .int .i64 i] w fun e w' => e = .returned (.bool (decide (0 ≤ i ∧ i < (vals.length : Int)))) ∧ w = w' := by
  obtain ⟨rb, v, u, rfl, h1, hown, hou, hv, hu, hvu, hlt, hF⟩ := h
  obtain ⟨a, c, rfl, a1, a2, a3⟩ := hown.shape
  have c0 : w.cell? ⟨rb, 0, none⟩ = some (.slice a vals.length c) := cell_of h1 rfl
  clear h1 hown hou hv hu hvu hlt hF a3
  rcases Int.lt_or_le i 0 with hn | hn
  · have hd : decide (0 ≤ i ∧ i < (vals.length : Int)) = false := by simp; omega
    rw [hd]
    have hn' : ¬ 0 ≤ i := by omega
    have hd2 : decide (0 ≤ i) = false := by simp; omega
    clear hd
    go_enter Try.func38, Try.ntmps38
    go_wp2
    go_ret
    exact ⟨rfl, rfl⟩
  · have hd2 : decide (0 ≤ i) = true := by simpa using hn
    have hd : decide (0 ≤ i ∧ i < (vals.length : Int)) = decide (i < (vals.length : Int)) := by simp [hn]
    rw [hd]
    clear hd
    go_enter Try.func38, Try.ntmps38
    go_wp2
    go_ret
    exact ⟨rfl, rfl⟩

theorem runFind (h : RUn w p F ρ vals) (i : Int) :
    Calls Try.prog 22 #[p, .int .i64 i] w fun e w' => ((i < 0 ∨ (vals.length : Int) ≤ i) ∧ e = .returned (.tuple #[.int .i64 0, .int .i64 2]) ∧ w = w') ∨
      ∃ j : Nat, i = j ∧ j < vals.length ∧ e = .returned (.tuple #[.int .i64 (ρ j : Int), .int .i64 0]) ∧ w = w' := by
  have HL := Lib.hid (runLies h i)
  obtain ⟨rb, v, u, rfl, h1, hown, hou, hv, hu, hvu, hlt, hF⟩ := h
  obtain ⟨a, c, rfl, a1, a2, a3⟩ := hown.shape
  have c0 : w.cell? ⟨rb, 0, none⟩ = some (.slice a vals.length c) := cell_of h1 rfl
  by_cases hi : 0 ≤ i ∧ i < (vals.length : Int)
  · obtain ⟨j, rfl⟩ := Int.eq_ofNat_of_zero_le hi.1
    have hj : j < vals.length := by omega
    obtain ⟨g, off, cap, hv, _, q2, hcl, _, hg⟩ := hown.elt (by omega)
    simp only [Value.slice.injEq, true_and] at hv
    obtain ⟨rfl, rfl⟩ := hv
    have e0 : w.cell? ⟨g, off + j, none⟩ = some (.int .i64 (ρ j : Int)) := hcl j _ (by simp [cellsOf_encI, lst, hj, encI])
    have hd : decide (0 ≤ (j : Int) ∧ (j : Int) < (vals.length : Int)) = true := by simpa using hi
    rw [hd] at HL
    have HJ := Lib.hid hj
    have hml : vals.length ≤ 9223372036854775807 := by unfold maxLen at q2; omega
    have hi1 : (j : Int) < (vals.length : Int) := by omega
    clear h1 hown hou hu hvu hlt hF a3 hcl hd hi
    go_enter Try.func22, Try.ntmps22
    go_wp2_with fail
    refine HL.out.mono ?_
    rintro e w' ⟨rfl, rfl⟩
    go_wp2
    go_ret2
    exact .inr ⟨j, rfl, HJ.out, rfl, rfl⟩
  · have hd : decide (0 ≤ i ∧ i < (vals.length : Int)) = false := by simpa using hi
    rw [hd] at HL
    have HI := Lib.hid (show i < 0 ∨ (vals.length : Int) ≤ i by omega)
    clear h1 hown hou hv hu hvu hlt hF a3 hd hi
    go_enter Try.func22, Try.ntmps22
    go_wp2_with fail
    refine HL.out.mono ?_
    rintro e w' ⟨rfl, rfl⟩
    go_wp2
    go_ret2
    exact .inl ⟨HI.out, rfl, rfl⟩

theorem runGet (h : RUn w p F ρ vals) (i : Int) :
    Calls Try.prog 23 #[p, .int .i64 i] w fun e w' => ((i < 0 ∨ (vals.length : Int) ≤ i) ∧ e = .returned (.tuple #[.int .i64 0, .int .i64 2]) ∧ w = w') ∨
      ∃ (j : Nat) (x : Int), i = j ∧ j < vals.length ∧ vals[ρ j]? = some x ∧ e = .returned (.tuple #[.int .i64 x, .int .i64 0]) ∧ Kept (fun _ => False) w w' := by
  have HL := Lib.hid (runLies h i)
  obtain ⟨rb, v, u, rfl, h1, hown, hou, hv, hu, hvu, hlt, hF⟩ := h
  obtain ⟨a, c, rfl, a1, a2, a3⟩ := hown.shape
  have c0 : w.cell? ⟨rb, 0, none⟩ = some (.slice a vals.length c) := cell_of h1 rfl
  by_cases hi : 0 ≤ i ∧ i < (vals.length : Int)
  · obtain ⟨j, rfl⟩ := Int.eq_ofNat_of_zero_le hi.1
    have hj : j < vals.length := by omega
    have hr := hlt j hj
    obtain ⟨g, off, cap, hv, _, q2, hcl, _, hg⟩ := hown.elt (by omega)
    simp only [Value.slice.injEq, true_and] at hv
    obtain ⟨rfl, rfl⟩ := hv
    have e0 : w.cell? ⟨g, off + j, none⟩ = some (.int .i64 (ρ j : Int)) := hcl j _ (by simp [cellsOf_encI, lst, hj, encI])
    obtain ⟨g2, off2, cap2, rfl, _, _, hcl2, _, hg2⟩ := hou.elt (by omega)
    have c1 : w.cell? ⟨rb, 1, none⟩ = some (.slice (some ⟨g2, off2, none⟩) vals.length cap2) := cell_of h1 rfl
    have e1 : w.cell? ⟨g2, off2 + ρ j, none⟩ = some (.int .i64 vals[ρ j]) := hcl2 (ρ j) _ (by simp [cellsOf_encI, hr, encI])
    have hd : decide (0 ≤ (j : Int) ∧ (j : Int) < (vals.length : Int)) = true := by simpa using hi
    rw [hd] at HL
    have HJ := Lib.hid hj
    have HX := Lib.hid (List.getElem?_eq_getElem hr)
    generalize vals[ρ j] = x at e1 HX
    have hml : vals.length ≤ 9223372036854775807 := by unfold maxLen at q2; omega
    have hi1 : (j : Int) < (vals.length : Int) := by omega
    have hi2 : (ρ j : Int) < (vals.length : Int) := by omega
    clear h1 hown hou hu hvu hlt hF a3 hcl hcl2 hd hi
    go_enter Try.func23, Try.ntmps23
    go_wp2_with fail
    refine HL.out.mono ?_
    rintro e w' ⟨rfl, rfl⟩
    go_wp2_with fail
    go_quiet (fail)
    go_wp2
    go_ret2
    exact .inr ⟨j, x, rfl, HJ.out, HX.out, rfl, (Kept.refl _ _).drewN _⟩
  · have hd : decide (0 ≤ i ∧ i < (vals.length : Int)) = false := by simpa using hi
    rw [hd] at HL
    have HI := Lib.hid (show i < 0 ∨ (vals.length : Int) ≤ i by omega)
    clear h1 hown hou hv hu hvu hlt hF a3 hd hi
    go_enter Try.func23, Try.ntmps23
    go_wp2_with fail
    refine HL.out.mono ?_
    rintro e w' ⟨rfl, rfl⟩
    go_wp2
    go_ret2
    exact .inl ⟨HI.out, rfl, rfl⟩

theorem runPut (h : RUn w p F ρ vals) (i x : Int) :
    Calls Try.prog 24 #[p, .int .i64 i, .int .i64 x] w fun e w' => ((i < 0 ∨ (vals.length : Int) ≤ i) ∧ e = .returned (.int .i64 2) ∧ w = w') ∨
      ∃ (j : Nat), i = j ∧ j < vals.length ∧ e = .returned (.int .i64 0) ∧ RUn w' p F ρ (vals.set (ρ j) x) ∧ Kept F w w' := by
  have HL := Lib.hid (runLies h i)
  obtain ⟨rb, v, u, rfl, h1, hown, hou, hv0, hu, hvu, hlt, hF⟩ := h
  obtain ⟨a, c, rfl, a1, a2, a3⟩ := hown.shape
  have c0 : w.cell? ⟨rb, 0, none⟩ = some (.slice a vals.length c) := cell_of h1 rfl
  by_cases hi : 0 ≤ i ∧ i < (vals.length : Int)
  · obtain ⟨j, rfl⟩ := Int.eq_ofNat_of_zero_le hi.1
    have hj : j < vals.length := by omega
    have hr := hlt j hj
    obtain ⟨g, off, cap, hv, _, q2, hcl, _, hg⟩ := hown.elt (by omega)
    simp only [Value.slice.injEq, true_and] at hv
    obtain ⟨rfl, rfl⟩ := hv
    have e0 : w.cell? ⟨g, off + j, none⟩ = some (.int .i64 (ρ j : Int)) := hcl j _ (by simp [cellsOf_encI, lst, hj, encI])
    obtain ⟨g2, off2, cap2, rfl, _, _, hcl2, hfz2, hg2⟩ := hou.elt (by omega)
    have c1 : w.cell? ⟨rb, 1, none⟩ = some (.slice (some ⟨g2, off2, none⟩) vals.length cap2) := cell_of h1 rfl
    have e1 : w.cell? ⟨g2, off2 + ρ j, none⟩ = some (.int .i64 vals[ρ j]) := hcl2 (ρ j) _ (by simp [cellsOf_encI, hr, encI])
    have f1 : w.frozen? ⟨g2, off2 + ρ j, none⟩ = false := hfz2 _
    have hd : decide (0 ≤ (j : Int) ∧ (j : Int) < (vals.length : Int)) = true := by simpa using hi
    rw [hd] at HL
    have hset := hou.setAt (j := ρ j) (by omega) (.int .i64 x)
    have hcs : (cellsOf encI vals).set (ρ j) (.int .i64 x) = cellsOf encI (vals.set (ρ j) x) := by rw [cellsOf_encI, cellsOf_encI, List.map_set]
    rw [hcs] at hset
    have hgg : g ≠ g2 := fun e => hvu g (by simp [Value.ownBlock]) (by simp [Value.ownBlock, e])
    have hrg : rb ≠ g2 := fun e => hu (by simp [Value.ownBlock, e])
    have HQ := Lib.hid (show RUn (w.drew.setCell ⟨g2, off2 + ρ j, none⟩ (.int .i64 x)) (.pointer (some ⟨rb, 0, none⟩)) F ρ (vals.set (ρ j) x) ∧ Kept F w (w.drew.setCell ⟨g2, off2 + ρ j, none⟩ (.int .i64 x)) from
      ⟨⟨rb, _, _, rfl, (heap_set_ne (w := w.drew) (p := ⟨g2, off2 + ρ j, none⟩) hrg _).trans h1, by rw [List.length_set]; exact hown.drew.setCell (p := ⟨g2, off2 + ρ j, none⟩) (by simp [Value.ownBlock, hgg]) _, by rw [List.length_set]; exact hset, hv0, hu, hvu, by rw [List.length_set]; exact hlt, hF⟩,
        (Kept.refl F w).drew.setCell (fun _ => (hF g2).2 (.inr (.inr (by simp [Value.ownBlock])))) _⟩)
    have HJ := Lib.hid hj
    generalize vals[ρ j] = y at e1
    have hml : vals.length ≤ 9223372036854775807 := by unfold maxLen at q2; omega
    have hi1 : (j : Int) < (vals.length : Int) := by omega
    have hi2 : (ρ j : Int) < (vals.length : Int) := by omega
    clear h1 hown hou hu hvu hlt hF a3 hcl hcl2 hd hi hset hcs hfz2 hv0 hgg hrg
    go_enter Try.func24, Try.ntmps24
    go_wp2_with fail
    refine HL.out.mono ?_
    rintro e w' ⟨rfl, rfl⟩
    go_wp2_with fail
    go_still_tail 13, (by kernel_rfl)
    change wpList _ _ _ _ _ w.drew
    have e2 : w.drew.cell? ⟨g2, off2 + ρ j, none⟩ = some (.int .i64 y) := e1
    have f2 : w.drew.frozen? ⟨g2, off2 + ρ j, none⟩ = false := f1
    go_wp2
    go_ret
    exact .inr ⟨j, rfl, HJ.out, rfl, HQ.out⟩
  · have hd : decide (0 ≤ i ∧ i < (vals.length : Int)) = false := by simpa using hi
    rw [hd] at HL
    have HI := Lib.hid (show i < 0 ∨ (vals.length : Int) ≤ i by omega)
    clear h1 hown hou hv0 hu hvu hlt hF a3 hd hi
    go_enter Try.func24, Try.ntmps24
    go_wp2_with fail
    refine HL.out.mono ?_
    rintro e w' ⟨rfl, rfl⟩
    go_wp2
    go_ret
    exact .inl ⟨HI.out, rfl, rfl⟩

end

end Go.Proofs.Ytodklnfdmcadkaa
