/- Lists of ints with memory of their own, one made behind the other. -/
import Derived.Test.YtodklnfdmcadkaaIntsApart
namespace Go.Proofs.Ytodklnfdmcadkaa
open Go.RowKit
set_option linter.unusedVariables false
set_option linter.unusedSimpArgs false

/-- vs are slices of the ints Ys, no two with memory in common. -/
structure RwsIs (w : World) (vs : List Value) (Ys : List (List Int)) : Prop where
  len : vs.length = Ys.length
  own : ∀ i (h : i < vs.length), Own w 3 1 vs[i] (Ys[i]'(by omega)).length (cellsOf encI (Ys[i]'(by omega)))
  apart : ∀ i j (hi : i < vs.length) (hj : j < vs.length), i ≠ j → ∀ b, vs[i].ownBlock = some b → vs[j].ownBlock ≠ some b

theorem RwsIs.nil (w : World) : RwsIs w [] [] := ⟨rfl, fun i h => by simp at h, fun i j h => by simp at h⟩

theorem RwsIs.frame {w w' : World} {vs : List Value} {Ys : List (List Int)} {G : Nat → Prop} (h : RwsIs w vs Ys) (hk : Kept G w w') (hd : ∀ v ∈ vs, ∀ b, v.ownBlock = some b → ¬ G b) : RwsIs w' vs Ys :=
  ⟨h.len, fun i hi => (h.own i hi).frame hk (hd _ (List.getElem_mem hi)), h.apart⟩

theorem RwsIs.lt {w : World} {vs : List Value} {Ys : List (List Int)} (h : RwsIs w vs Ys) {v : Value} (hv : v ∈ vs) {b : Nat} (hb : v.ownBlock = some b) : b < w.heap.size := by
  obtain ⟨i, hi, rfl⟩ := List.mem_iff_getElem.1 hv
  exact (h.own i hi).lt hb

/-- One more, whose memory is apart from the others'. -/
theorem RwsIs.snoc {w : World} {vs : List Value} {Ys : List (List Int)} {v : Value} {Y : List Int} (h : RwsIs w vs Ys) (ho : Own w 3 1 v Y.length (cellsOf encI Y)) (hn : ∀ u ∈ vs, ∀ b, u.ownBlock = some b → v.ownBlock ≠ some b) : RwsIs w (vs ++ [v]) (Ys ++ [Y]) := by
  have hl := h.len
  refine ⟨by simp [hl], ?_, ?_⟩
  · intro i hi
    by_cases h1 : i < vs.length
    · have := h.own i h1
      rw [List.getElem_append_left h1]
      simp only [List.getElem_append_left (show i < Ys.length by omega)]
      exact this
    · obtain rfl : i = vs.length := by simp at hi; omega
      have e1 : (vs ++ [v])[vs.length]'hi = v := by simp
      have e2 : (Ys ++ [Y])[vs.length]'(by simp; omega) = Y := by simp [hl]
      rw [e1, e2]
      exact ho
  · intro i j hi hj hij b hb
    by_cases h1 : i < vs.length
    · rw [List.getElem_append_left h1] at hb
      by_cases h2 : j < vs.length
      · rw [List.getElem_append_left h2]
        exact h.apart i j h1 h2 hij b hb
      · obtain rfl : j = vs.length := by simp at hj; omega
        rw [List.getElem_append_right (Nat.le_refl _)]
        simp only [Nat.sub_self, List.getElem_cons_zero]
        exact hn _ (List.getElem_mem h1) b hb
    · obtain rfl : i = vs.length := by simp at hi; omega
      rw [List.getElem_append_right (Nat.le_refl _)] at hb
      simp only [Nat.sub_self, List.getElem_cons_zero] at hb
      have h2 : j < vs.length := by simp at hj; omega
      rw [List.getElem_append_left h2]
      exact fun h' => hn _ (List.getElem_mem h2) b h' hb

/-- One more, new since w. -/
theorem RwsIs.new {w w' : World} {vs : List Value} {Ys : List (List Int)} {v : Value} {Y : List Int} {G : Nat → Prop} (h : RwsIs w vs Ys) (hk : Kept G w w') (hd : ∀ v ∈ vs, ∀ b, v.ownBlock = some b → ¬ G b) (ho : Own w' 3 1 v Y.length (cellsOf encI Y)) (hn : ∀ b, v.ownBlock = some b → w.heap.size ≤ b) : RwsIs w' (vs ++ [v]) (Ys ++ [Y]) :=
  (h.frame hk hd).snoc ho (fun u hu b hb hv => by have := h.lt hu hb; have := hn b hv; omega)

theorem RwsIs.rows {w : World} {vs : List Value} {Ys : List (List Int)} (h : RwsIs w vs Ys) : Rows0 w vs (Ys.map List.length) :=
  ⟨by simp [h.len], fun i hi => ⟨Ys[i]'(by have := h.len; omega), by simp, h.own i hi⟩, h.apart⟩

/-- The lists' memory is new since B and apart from F. -/
def Rs (w : World) (B : Nat) (F : Nat → Prop) (vs : List Value) (Ys : List (List Int)) : Prop :=
  RwsIs w vs Ys ∧ (∀ v ∈ vs, ∀ b, v.ownBlock = some b → ¬ F b) ∧ ∀ v ∈ vs, ∀ b, v.ownBlock = some b → B ≤ b

theorem Rs.frame {w w' : World} {B : Nat} {F G : Nat → Prop} {vs : List Value} {Ys : List (List Int)} (h : Rs w B F vs Ys) (hk : Kept G w w') (hG : ∀ b, G b → F b) : Rs w' B F vs Ys :=
  ⟨h.1.frame hk (fun v hv b hb hg => h.2.1 v hv b hb (hG b hg)), h.2.1, h.2.2⟩

theorem Rs.new {w w' : World} {B : Nat} {F G : Nat → Prop} {vs : List Value} {Ys : List (List Int)} {v : Value} {Y : List Int} (h : Rs w B F vs Ys) (hk : Kept G w w') (hG : ∀ b, G b → F b) (hF : ∀ b, F b → b < w.heap.size) (hB : B ≤ w.heap.size)
    (ho : Own w' 3 1 v Y.length (cellsOf encI Y)) (hn : ∀ b, v.ownBlock = some b → w.heap.size ≤ b) : Rs w' B F (vs ++ [v]) (Ys ++ [Y]) := by
  refine ⟨h.1.new hk (fun v hv b hb hg => h.2.1 v hv b hb (hG b hg)) ho hn, fun u hu b hb => ?_, fun u hu b hb => ?_⟩
  · rcases List.mem_append.1 hu with hu | hu
    · exact h.2.1 u hu b hb
    · simp only [List.mem_singleton] at hu
      subst hu
      exact fun hf => by have := hF b hf; have := hn b hb; omega
  · rcases List.mem_append.1 hu with hu | hu
    · exact h.2.2 u hu b hb
    · simp only [List.mem_singleton] at hu
      subst hu
      exact Nat.le_trans hB (hn b hb)

/-- IntsApart of lists whose values lie in a slice that was made for the call. -/
theorem Rs.apart {w : World} {B : Nat} {F : Nat → Prop} {vs : List Value} {Ys : List (List Int)} (h : Rs w B F vs Ys) (hL : vs.length ≤ 100000) (hlen : ∀ Y ∈ Ys, Y.length ≤ 17592186043904) (hsum : (Ys.map List.length).sum ≤ 4611686018427387904) {lv : Value} (hl : Own w 27 1 lv vs.length vs) (hd : ∀ v ∈ vs, ∀ b, v.ownBlock = some b → lv.ownBlock ≠ some b) :
    Calls Try.prog 17 #[lv] w fun e w' => e = .returned (.bool true) ∧ Kept (fun b => ∃ v ∈ vs, v.ownBlock = some b) w w' := by
  refine (intsApart w lv vs (Ys.map List.length) hl h.1.rows (fun i hi b hb => hd _ (List.getElem_mem hi) b hb) hL (fun i hi => by rw [List.getElem_map]; exact hlen _ (List.getElem_mem _)) hsum).mono ?_
  rintro e w' ⟨he, hk⟩
  exact ⟨he, hk.mono (fun b _ ⟨i, hi, hb⟩ => ⟨_, List.getElem_mem hi, hb⟩)⟩

end Go.Proofs.Ytodklnfdmcadkaa
