/- The stack's Peek and Put at one type of one cell. -/
import Derived.Test.YthkkpnlgjkdneaaStkI
import Derived.Test.YthkkpnlgjkdneaaSameI
namespace Go.Proofs.Ythkkpnlgjkdneaa
open Go.RowKit
set_option linter.unusedVariables false
set_option linter.unusedSimpArgs false

section
variable {p : Value} {F : Nat → Prop} {limit : Nat} {xs : List (Int)} {w : World}

theorem stkPeekI (h : StkI w p F limit xs) (n : Int) :
    Calls Try.prog 32 #[p, .int .i64 n] w fun e w' => ((n < 0 ∨ (xs.length : Int) ≤ n) ∧ e = .returned (.tuple #[.int .i64 0, .int .i64 2]) ∧ w = w') ∨
      ∃ (j : Nat) (hj : j < xs.length), (xs.length : Int) = j + 1 + n ∧ e = .returned (.tuple #[encI xs[j], .int .i64 0]) ∧ w = w' := by
  have hp := stkPlaceI h n
  obtain ⟨sb, v, rfl, h1, hown, hv1, hl, hF⟩ := h
  obtain ⟨a, c, rfl, a1, a2, a3⟩ := hown.shape
  have c1 : w.cell? ⟨sb, 1, none⟩ = some (.slice a xs.length c) := cell_of h1 rfl
  have HP := Lib.hid hp
  have HO := Lib.hid hown.rd
  have A3 := Lib.hid a3
  unfold maxLen at a2
  clear hp h1 hown hv1 hF a3 hl
  unfold encI
  go_enter Try.func32, Try.ntmps32
  go_wp2_with fail
  refine HP.out.mono ?_
  rintro e w' (⟨hn, rfl, rfl⟩ | ⟨j, hj, hjn, rfl, rfl⟩)
  · have HN := Lib.hid hn
    clear hn
    go_wp2
    go_ret2
    exact .inl ⟨HN.out, rfl, rfl⟩
  · cases a with
    | none => exact absurd (A3.out rfl).1 (by omega)
    | some ad =>
      have cx := rdCellI HO.out hj
      dsimp only at cx
      have HJ := Lib.hid hj
      have HJN := Lib.hid hjn
      generalize hx : xs[j] = x at cx
      have HX := Lib.hid hx
      clear hjn hx
      go_wp2
      go_ret2
      have hxx := HX.out
      subst hxx
      exact .inr ⟨j, HJ.out, HJN.out, rfl, rfl⟩

theorem cellsOf_setI (xs : List (Int)) (j : Nat) (x : Int) : (cellsOf encI xs).set j (encI x) = cellsOf encI (xs.set j x) := by
  rw [cellsOf_encI, cellsOf_encI, List.map_set]; rfl

theorem stkPutI (h : StkI w p F limit xs) (n : Int) (x : Int) :
    Calls Try.prog 42 #[p, .int .i64 n, encI x] w fun e w' => ((n < 0 ∨ (xs.length : Int) ≤ n) ∧ e = .returned (.int .i64 2) ∧ w = w') ∨
      ∃ (j : Nat), j < xs.length ∧ (xs.length : Int) = j + 1 + n ∧ e = .returned (.int .i64 0) ∧ StkI w' p F limit (xs.set j x) ∧ Kept F w w' := by
  have hp := stkPlaceI h n
  obtain ⟨sb, v, rfl, h1, hown, hv1, hl, hF⟩ := h
  obtain ⟨a, c, rfl, a1, a2, a3⟩ := hown.shape
  have c1 : w.cell? ⟨sb, 1, none⟩ = some (.slice a xs.length c) := cell_of h1 rfl
  have HP := Lib.hid hp
  have H1 := Lib.hid h1
  have HO := Lib.hid hown
  have HV := Lib.hid hv1
  have HF := Lib.hid hF
  have HL := Lib.hid hl
  unfold maxLen at a2
  clear hp h1 hown hv1 hF a3 hl
  unfold encI
  go_enter Try.func42, Try.ntmps42
  go_wp2_with fail
  refine HP.out.mono ?_
  rintro e w' (⟨hn, rfl, rfl⟩ | ⟨j, hj, hjn, rfl, rfl⟩)
  · have HN := Lib.hid hn
    clear hn
    go_wp2
    go_ret
    exact .inl ⟨HN.out, rfl, rfl⟩
  · obtain ⟨g, off, cap, hv, _, _, hcl, hfz, hg⟩ := HO.out.elt (by omega)
    simp only [Value.slice.injEq, true_and] at hv
    obtain ⟨rfl, rfl⟩ := hv
    have cx : w.cell? ⟨g, off + j, none⟩ = some (encI xs[j]) := hcl j _ (by rw [cellsOf_encI]; simp [hj, encI])
    have fx : w.frozen? ⟨g, off + j, none⟩ = false := hfz _
    unfold encI at cx
    generalize xs[j] = x' at cx
    have HJ := Lib.hid hj
    have HJN := Lib.hid hjn
    clear hjn hcl hfz
    go_wp2
    go_ret
    have hFe : ∀ b, F b ↔ (b = sb ∨ some g = some b) := fun b => by rw [HF.out b]; simp [Value.ownBlock]
    have hgs : sb ≠ g := fun e => HV.out (by simp [Value.ownBlock, e])
    have ho := HO.out.setAt (j := j) (by simp; exact HJ.out) (encI x)
    rw [cellsOf_setI] at ho
    refine .inr ⟨j, HJ.out, HJN.out, rfl, ⟨sb, _, rfl, (heap_set_ne (p := ⟨g, off + j, none⟩) hgs _).trans H1.out, by rw [List.length_set]; exact ho, HV.out, ⟨HL.out.1, by rw [List.length_set]; exact HL.out.2⟩, HF.out⟩, ?_⟩
    exact (Kept.refl _ w).setCell (fun _ => (hFe g).2 (.inr rfl)) _

end

end Go.Proofs.Ythkkpnlgjkdneaa
