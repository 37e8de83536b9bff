/- The reference of layer 5: Groups' memory. -/
import Derived.Test.YtncloielmfplpaaRefP5
import Derived.Test.YtncloielmfplpaaRefC5
namespace Go.Proofs.Ytncloielmfplpaa
open Go.RowKit
set_option linter.unusedVariables false
set_option linter.unusedSimpArgs false

def encBl (b : Bool) : Value := .bool b

theorem cellsOf_encBl (l : List Bool) : cellsOf encBl l = l.map fun b => Value.bool b := by
  induction l with
  | nil => rfl
  | cons x l ih => show (encBl x).cells.toList ++ cellsOf encBl l = _; rw [ih]; rfl

theorem marks_encBl (n : Nat) (f : Nat → Bool) : marksB n f = cellsOf encBl ((List.range n).map f) := by
  rw [cellsOf_encBl]
  simp [marksB]

/-- What is reached from each. -/
noncomputable def froms (L : List (List Nat)) (n k : Nat) : List (List Bool) := (List.range k).map fun i => (List.range n).map (rb L i)

theorem froms_succ (L : List (List Nat)) (n k : Nat) : froms L n (k + 1) = froms L n k ++ [(List.range n).map (rb L k)] := by simp [froms, List.range_succ]
theorem froms_length (L : List (List Nat)) (n k : Nat) : (froms L n k).length = k := by simp [froms]

abbrev LsB := LsIs (α := Bool) 60 4 encBl

/-- One row's cells. -/
theorem froms_row {L : List (List Nat)} {n : Nat} {w : World} {fa : Option Addr} {fc : Nat} {FV : Nat → Prop} (h : LsB w (.slice fa n fc) FV (froms L n n)) {i : Nat} (hi : i < n) :
    ∃ g off rg ro rc, fa = some ⟨g, off, none⟩ ∧ w.cell? ⟨g, off + i, none⟩ = some (.slice (some ⟨rg, ro, none⟩) n rc) ∧ ∀ j, j < n → w.cell? ⟨rg, ro + j, none⟩ = some (.bool (rb L i j)) := by
  obtain ⟨g, off, cap, v, hv, _, _, hc, _, ho, _⟩ := h.row (i := i) (by rw [froms_length]; exact hi)
  simp only [Value.slice.injEq] at hv
  have e : (froms L n n)[i]'(by rw [froms_length]; exact hi) = (List.range n).map (rb L i) := by simp [froms]
  rw [e] at ho
  simp only [List.length_map, List.length_range] at ho
  obtain ⟨rg, ro, rc, rfl, _, _, hcl, _, _⟩ := ho.elt (by omega)
  refine ⟨g, off, rg, ro, rc, hv.1, hc, fun j hj => hcl j _ ?_⟩
  rw [cellsOf_encBl]
  simp [hj]

/-- f where x has v. -/
def setN (f : Nat → Nat) (x v : Nat) : Nat → Nat := fun y => if y = x then v else f y

theorem setN_at (f : Nat → Nat) (x v : Nat) : setN f x v x = v := by simp [setN]

/-- The rows, the firsts, the counts. -/
structure RG (L : List (List Nat)) (n : Nat) (w wr : World) (fv : Value) (FV : Nat → Prop) (fb : Nat) (ft wt : Nat → Nat) : Prop where
  frm : LsB wr fv FV (froms L n n)
  fst : Own wr 3 1 (.slice (some ⟨fb, 0, none⟩) n n) n (cellsOf encN ((List.range n).map ft))
  wts : Own wr 3 1 (.slice (some ⟨fb + 1, 0, none⟩) n n) n (cellsOf encN ((List.range n).map wt))
  fl : ∀ b, FV b → b < fb
  lo : w.heap.size ≤ fb
  kept : Kept (fun _ => False) w wr

section
variable {L : List (List Nat)} {n : Nat} {w wr w' : World} {fv : Value} {FV : Nat → Prop} {fb : Nat} {ft wt : Nat → Nat}

theorem own_num {w : World} {b n m : Nat} {f : Nat → Nat} (h : Own w 3 1 (.slice (some ⟨b, 0, none⟩) n m) n (cellsOf encN ((List.range n).map f))) {i : Nat} (hi : i < n) : w.cell? ⟨b, i, none⟩ = some (.int .i64 (f i : Int)) ∧ w.frozen? ⟨b, i, none⟩ = false := by
  obtain ⟨g', off', cap', hv, _, _, hcl, hf, _⟩ := h.elt (by omega)
  simp only [Value.slice.injEq, Option.some.injEq, Addr.mk.injEq, and_true, true_and] at hv
  obtain ⟨⟨rfl, rfl⟩, rfl⟩ := hv
  have := hcl i _ (by rw [cellsOf_encN]; simp [hi]; rfl)
  rw [Nat.zero_add] at this
  exact ⟨this, hf _⟩

theorem own_setN {w : World} {b n m : Nat} {f : Nat → Nat} (h : Own w 3 1 (.slice (some ⟨b, 0, none⟩) n m) n (cellsOf encN ((List.range n).map f))) {i : Nat} (hi : i < n) (v : Nat) : Own (w.setCell ⟨b, i, none⟩ (.int .i64 (v : Int))) 3 1 (.slice (some ⟨b, 0, none⟩) n m) n (cellsOf encN ((List.range n).map (setN f i v))) := by
  have h1 := h.setAt (j := i) (by omega) (.int .i64 (v : Int))
  rw [Nat.zero_add] at h1
  have e : (cellsOf encN ((List.range n).map f)).set i (.int .i64 (v : Int)) = cellsOf encN ((List.range n).map (setN f i v)) := by
    rw [cellsOf_encN, cellsOf_encN]
    apply List.ext_getElem (by simp)
    intro j h1 h2
    simp only [List.getElem_set, List.getElem_map, List.getElem_range, setN]
    split
    · rename_i e; subst e; simp
    · rename_i e; simp [Ne.symm e]
  rw [e] at h1
  exact h1

theorem RG.frame {G : Nat → Prop} (h : RG L n w wr fv FV fb ft wt) (hk : Kept G wr w') (h1 : ∀ b, G b → fb + 1 < b) : RG L n w w' fv FV fb ft wt := by
  have hlo := h.lo
  exact ⟨h.frm.frame hk (fun b hb g => by have := h.fl b hb; have := h1 b g; omega), h.fst.frame hk (fun b hb g => by simp [Value.ownBlock] at hb; have := h1 b g; omega), h.wts.frame hk (fun b hb g => by simp [Value.ownBlock] at hb; have := h1 b g; omega), h.fl, h.lo, h.kept.trans' hk (fun i hi g => by have := h1 i g; omega)⟩

theorem RG.setF (h : RG L n w wr fv FV fb ft wt) {i : Nat} (hi : i < n) (v : Nat) : RG L n w (wr.setCell ⟨fb, i, none⟩ (.int .i64 (v : Int))) fv FV fb (setN ft i v) wt := by
  have hlo := h.lo
  have hk : Kept (fun b => b = fb) wr (wr.setCell ⟨fb, i, none⟩ (.int .i64 (v : Int))) := (Kept.refl (fun b => b = fb) wr).setCell (p := ⟨fb, i, none⟩) (fun _ => rfl) _
  exact ⟨h.frm.frame hk (fun b hb g => by have := h.fl b hb; omega), own_setN h.fst hi v, h.wts.frame hk (fun b hb g => by simp [Value.ownBlock] at hb; omega), h.fl, h.lo, h.kept.trans' hk (fun i hi g => by omega)⟩

theorem RG.setW (h : RG L n w wr fv FV fb ft wt) {i : Nat} (hi : i < n) (v : Nat) : RG L n w (wr.setCell ⟨fb + 1, i, none⟩ (.int .i64 (v : Int))) fv FV fb ft (setN wt i v) := by
  have hlo := h.lo
  have hk : Kept (fun b => b = fb + 1) wr (wr.setCell ⟨fb + 1, i, none⟩ (.int .i64 (v : Int))) := (Kept.refl (fun b => b = fb + 1) wr).setCell (p := ⟨fb + 1, i, none⟩) (fun _ => rfl) _
  exact ⟨h.frm.frame hk (fun b hb g => by have := h.fl b hb; omega), h.fst.frame hk (fun b hb g => by simp [Value.ownBlock] at hb; omega), own_setN h.wts hi v, h.fl, h.lo, h.kept.trans' hk (fun i hi g => by omega)⟩

end

end Go.Proofs.Ytncloielmfplpaa
