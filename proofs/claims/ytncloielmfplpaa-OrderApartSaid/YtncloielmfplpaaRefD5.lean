/- The reference of layer 5: Groups' memory in the telling. -/
import Derived.Test.YtncloielmfplpaaRefM5
namespace Go.Proofs.Ytncloielmfplpaa
open Go.RowKit
set_option linter.unusedVariables false
set_option linter.unusedSimpArgs false

/-- The rows, firsts, counts; which are told; the groups told. -/
structure RD (L : List (List Nat)) (n : Nat) (w wr : World) (fv : Value) (FV : Nat → Prop) (fb tb : Nat) (wv : Nat → Nat) (S : Nat → Bool) (ov : Value) (FO : Nat → Prop) (Ys : List (List Int)) : Prop where
  rg : RG L n w wr fv FV fb (fo L) wv
  tld : Own wr 4 1 (.slice (some ⟨tb, 0, none⟩) n n) n (marksB n S)
  out : LsXI wr ov FO Ys
  fo : ∀ b, FO b → tb < b
  lt : fb + 1 < tb

section
variable {L : List (List Nat)} {n : Nat} {w wr w' : World} {fv : Value} {FV : Nat → Prop} {fb tb : Nat} {wv : Nat → Nat} {S : Nat → Bool} {ov : Value} {FO : Nat → Prop} {Ys : List (List Int)}

theorem RD.frame {G : Nat → Prop} (h : RD L n w wr fv FV fb tb wv S ov FO Ys) (hk : Kept G wr w') (h1 : ∀ b, G b → tb < b ∧ ¬ FO b) : RD L n w w' fv FV fb tb wv S ov FO Ys := by
  have hlt := h.lt
  exact ⟨h.rg.frame hk (fun b g => by have := (h1 b g).1; omega), h.tld.frame hk (fun b hb g => by simp [Value.ownBlock] at hb; have := (h1 b g).1; omega), h.out.frame hk (fun b hb g => (h1 b g).2 hb), h.fo, h.lt⟩

theorem RD.mark (h : RD L n w wr fv FV fb tb wv S ov FO Ys) {i : Nat} (hi : i < n) : RD L n w (wr.setCell ⟨tb, i, none⟩ (.bool true)) fv FV fb tb wv (setB S i) ov FO Ys := by
  have hlt := h.lt
  have hk : Kept (fun b => b = tb) wr (wr.setCell ⟨tb, i, none⟩ (.bool true)) := (Kept.refl (fun b => b = tb) wr).setCell (p := ⟨tb, i, none⟩) (fun _ => rfl) _
  have hset := h.tld.setAt (j := i) (by omega) (.bool true)
  rw [Nat.zero_add, marksB_set] at hset
  exact ⟨h.rg.frame hk (fun b g => by omega), hset, h.out.frame hk (fun b hb g => by have := h.fo b hb; omega), h.fo, h.lt⟩

theorem RD.setW (h : RD L n w wr fv FV fb tb wv S ov FO Ys) {i : Nat} (hi : i < n) (v : Nat) : RD L n w (wr.setCell ⟨fb + 1, i, none⟩ (.int .i64 (v : Int))) fv FV fb tb (setN wv i v) S ov FO Ys := by
  have hlt := h.lt
  have hk : Kept (fun b => b = fb + 1) wr (wr.setCell ⟨fb + 1, i, none⟩ (.int .i64 (v : Int))) := (Kept.refl (fun b => b = fb + 1) wr).setCell (p := ⟨fb + 1, i, none⟩) (fun _ => rfl) _
  exact ⟨h.rg.setW hi v, h.tld.frame hk (fun b hb g => by simp [Value.ownBlock] at hb; omega), h.out.frame hk (fun b hb g => by have := h.fo b hb; omega), h.fo, h.lt⟩

theorem RD.markc (h : RD L n w wr fv FV fb tb wv S ov FO Ys) {i : Nat} (hi : i < n) : wr.cell? ⟨tb, i, none⟩ = some (.bool (S i)) ∧ wr.frozen? ⟨tb, i, none⟩ = false := by
  obtain ⟨g', off', cap', hv, _, _, hcl, hf, _⟩ := h.tld.elt (by omega)
  simp only [Value.slice.injEq, Option.some.injEq, Addr.mk.injEq, and_true, true_and] at hv
  obtain ⟨⟨rfl, rfl⟩, rfl⟩ := hv
  have := hcl i _ (marksB_get S hi)
  rw [Nat.zero_add] at this
  exact ⟨this, hf _⟩

/-- A group more. -/
theorem RD.snoc (h : RD L n w wr fv FV fb tb wv S ov FO Ys) {vs : List Value} (p1 : Own wr 22 1 ov vs.length vs) (p2 : VsIs 3 encI wr vs Ys) (o3 : ∀ v ∈ vs, ∀ b, v.ownBlock = some b → ov.ownBlock ≠ some b) (o4 : ∀ b, FO b ↔ (ov.ownBlock = some b ∨ ∃ v ∈ vs, v.ownBlock = some b))
    {mv ov2 : Value} {Y : List Int} {o : Obj} (hm : Own wr 3 1 mv Y.length (cellsOf encI Y)) (hmb : ∀ b, mv.ownBlock = some b → tb < b ∧ ¬ FO b)
    (hk : Kept (fun b => ov.ownBlock = some b) (wr.alloc o) w') (hb2 : ∀ b, ov2.ownBlock = some b → ov.ownBlock = some b ∨ (wr.alloc o).heap.size ≤ b) (hg : Own w' 22 1 ov2 (vs.length + 1) (vs ++ [mv])) (htb : tb < wr.heap.size) :
    ∃ FO', RD L n w w' fv FV fb tb wv S ov2 FO' (Ys ++ [Y]) := by
  have hlt := h.lt
  have h0 := h.frame ((Kept.refl (fun _ => False) wr).alloc o) (fun _ h => h.elim)
  have o1 := p1.alloc o
  have o2 : VsIs 3 encI (wr.alloc o) vs Ys := p2.frame ((Kept.refl (fun _ => False) wr).alloc o) (fun _ _ _ _ => id)
  have hovF : ∀ b, ov.ownBlock = some b → FO b := fun b hb => (o4 b).2 (.inl hb)
  obtain ⟨FO', q1, q2⟩ := LsIs.snoc o1 o2 o3 o4 (hm.alloc o) (fun b hb => (hmb b hb).2) hk hg hb2
  have hfo : ∀ b, ov.ownBlock = some b → tb < b := fun b hb => h.fo b (hovF b hb)
  refine ⟨FO', h0.rg.frame hk (fun b g => by have := hfo b g; omega), h0.tld.frame hk (fun b hb g => by simp [Value.ownBlock] at hb; have := hfo b g; omega), q1, fun b hb => ?_, h.lt⟩
  rcases q2 b hb with h1 | h1 | h1
  · exact h.fo b h1
  · exact (hmb b h1).1
  · simp at h1
    omega

end

end Go.Proofs.Ytncloielmfplpaa
