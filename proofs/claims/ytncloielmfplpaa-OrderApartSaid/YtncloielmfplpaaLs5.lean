/- Lists of lists in memory (plain; over whatever program). -/
import Derived.Test.YtncloielmfplpaaIdxIs
namespace Go.Proofs.Ytncloielmfplpaa
open Go.RowKit
set_option linter.unusedVariables false
set_option linter.unusedSimpArgs false

/-- vs are slices of the things Ys, no two with memory in common. -/
structure VsIs {α : Type} (e : TypeId) (enc : α → Value) (w : World) (vs : List Value) (Ys : List (List α)) : Prop where
  len : vs.length = Ys.length
  own : ∀ i (h : i < vs.length) (h' : i < Ys.length), Own w e 1 vs[i] Ys[i].length (cellsOf enc Ys[i])
  apart : ∀ i j (hi : i < vs.length) (hj : j < vs.length), i ≠ j → ∀ b, vs[i].ownBlock = some b → vs[j].ownBlock ≠ some b

/-- gv is a slice of the lists Ys; F: its blocks and theirs. -/
def LsIs {α : Type} (T e : TypeId) (enc : α → Value) (w : World) (gv : Value) (F : Nat → Prop) (Ys : List (List α)) : Prop :=
  ∃ vs, Own w T 1 gv vs.length vs ∧ VsIs e enc w vs Ys ∧ (∀ v ∈ vs, ∀ b, v.ownBlock = some b → gv.ownBlock ≠ some b) ∧ ∀ b, F b ↔ (gv.ownBlock = some b ∨ ∃ v ∈ vs, v.ownBlock = some b)

section
variable {α : Type} {T e : TypeId} {enc : α → Value} {w w' : World} {gv : Value} {F : Nat → Prop} {Ys : List (List α)}

theorem VsIs.lt {vs : List Value} (h : VsIs e enc w vs Ys) {v : Value} (hv : v ∈ vs) {b : Nat} (hb : v.ownBlock = some b) : b < w.heap.size := by
  obtain ⟨i, hi, rfl⟩ := List.mem_iff_getElem.1 hv
  exact (h.own i hi (by rw [← h.len]; exact hi)).lt hb

theorem VsIs.frame {vs : List Value} {G : Nat → Prop} (h : VsIs e enc w vs Ys) (hk : Kept G w w') (hd : ∀ v ∈ vs, ∀ b, v.ownBlock = some b → ¬ G b) : VsIs e enc w' vs Ys :=
  ⟨h.len, fun i hi hi' => (h.own i hi hi').frame hk (hd _ (List.getElem_mem hi)), h.apart⟩

theorem LsIs.lt (h : LsIs T e enc w gv F Ys) {b : Nat} (hb : F b) : b < w.heap.size := by
  obtain ⟨vs, h1, h2, h3, hF⟩ := h
  rcases (hF b).1 hb with h | ⟨v, hv, h⟩
  · exact h1.lt h
  · exact h2.lt hv h

theorem LsIs.frame {G : Nat → Prop} (h : LsIs T e enc w gv F Ys) (hk : Kept G w w') (hd : ∀ b, F b → ¬ G b) : LsIs T e enc w' gv F Ys := by
  obtain ⟨vs, h1, h2, h3, hF⟩ := h
  exact ⟨vs, h1.frame hk (fun b hb => hd b ((hF b).2 (.inl hb))), h2.frame hk (fun v hv b hb => hd b ((hF b).2 (.inr ⟨v, hv, hb⟩))), h3, hF⟩

theorem LsIs.nil (w : World) : LsIs (α := α) T e enc w (.slice none 0 0) (fun _ => False) [] :=
  ⟨[], Own.nil _ _ _, ⟨rfl, fun i h => by simp at h, fun i j h => by simp at h⟩, by simp, fun b => by simp [Value.ownBlock]⟩

theorem LsIs.made {n : Nat} (h : Own w T 1 gv n (List.replicate n (.slice none 0 0))) : LsIs (α := α) T e enc w gv (fun b => gv.ownBlock = some b) (List.replicate n []) := by
  refine ⟨List.replicate n (.slice none 0 0), by simpa using h, ⟨by simp, fun i h h' => ?_, fun i j hi hj hij b hb => ?_⟩, fun v hv b hb => ?_, fun b => ?_⟩
  · simp only [List.getElem_replicate]
    exact Own.nil _ _ _
  · simp [Value.ownBlock] at hb
  · rw [List.eq_of_mem_replicate hv] at hb
    simp [Value.ownBlock] at hb
  · constructor
    · exact .inl
    · rintro (h | ⟨v, hv, hb⟩)
      · exact h
      · rw [List.eq_of_mem_replicate hv] at hb
        simp [Value.ownBlock] at hb

theorem LsIs.shape (h : LsIs T e enc w gv F Ys) : ∃ a c, gv = .slice a Ys.length c ∧ Ys.length ≤ c ∧ c ≤ maxLen ∧ (a = none → Ys.length = 0 ∧ c = 0) := by
  obtain ⟨vs, h1, h2, _⟩ := h
  obtain ⟨a, c, h3, h4, h5, h6⟩ := h1.shape
  rw [h2.len] at h3 h4 h6
  exact ⟨a, c, h3, h4, h5, h6⟩

/-- One row. -/
theorem LsIs.row (h : LsIs T e enc w gv F Ys) {i : Nat} (hi : i < Ys.length) :
    ∃ g off cap v, gv = .slice (some ⟨g, off, none⟩) Ys.length cap ∧ Ys.length ≤ cap ∧ cap ≤ maxLen ∧ w.cell? ⟨g, off + i, none⟩ = some v ∧ w.frozen? ⟨g, off + i, none⟩ = false ∧ Own w e 1 v Ys[i].length (cellsOf enc Ys[i]) ∧ F g ∧ g < w.heap.size ∧ (∀ b, v.ownBlock = some b → F b) ∧ v.ownBlock ≠ some g := by
  obtain ⟨vs, h1, h2, h3, hF⟩ := h
  have hl := h2.len
  obtain ⟨g, off, cap, rfl, a1, a2, hcl, hfz, hg⟩ := h1.elt (by omega)
  rw [hl] at a1 ⊢
  refine ⟨g, off, cap, vs[i]'(by omega), rfl, a1, a2, hcl i _ (by simp [show i < vs.length by omega]), hfz _, h2.own i (by omega) hi, (hF g).2 (.inl (by simp [Value.ownBlock])), hg, fun b hb => (hF b).2 (.inr ⟨_, List.getElem_mem _, hb⟩), fun hb => ?_⟩
  exact h3 _ (List.getElem_mem _) g hb (by simp [Value.ownBlock])

/-- One row's slice, and its reading whatever came of what is not ours. -/
theorem LsIs.rowAt (h : LsIs T e enc w gv F Ys) {i : Nat} (hi : i < Ys.length) : ∃ v, ∀ w' (G : Nat → Prop), Kept G w w' → (∀ b, F b → ¬ G b) → (∀ g off n c, gv = .slice (some ⟨g, off, none⟩) n c → w'.cell? ⟨g, off + i, none⟩ = some v) ∧ Own w' e 1 v Ys[i].length (cellsOf enc Ys[i]) := by
  obtain ⟨g, off, cap, v, e1, _, _, hc, _, ho, hg, _, hv, _⟩ := h.row hi
  refine ⟨v, fun w' G hk hd => ⟨fun g' off' n c e2 => ?_, ho.frame hk (fun b hb => hd b (hv b hb))⟩⟩
  rw [e1] at e2
  simp only [Value.slice.injEq, Option.some.injEq, Addr.mk.injEq, and_true] at e2
  obtain ⟨⟨rfl, rfl⟩, _⟩ := e2
  exact hk.cell hc (hd _ hg)

/-- One thing more in a row: 'gv[i] = append(gv[i], y)'. w2: behind the append. -/
theorem LsIs.put {w2 : World} (h : LsIs T e enc w gv F Ys) {i : Nat} (hi : i < Ys.length) {g off n c : Nat} (hgv : gv = .slice (some ⟨g, off, none⟩) n c) {v v2 : Value} (hc : w.cell? ⟨g, off + i, none⟩ = some v) {Y : List α}
    (hk : Kept (fun b => v.ownBlock = some b) w w2) (ho : Own w2 e 1 v2 Y.length (cellsOf enc Y)) (hb2 : ∀ b, v2.ownBlock = some b → v.ownBlock = some b ∨ w.heap.size ≤ b) :
    ∃ F', LsIs T e enc (w2.setCell ⟨g, off + i, none⟩ v2) gv F' (Ys.set i Y) ∧ Kept F w (w2.setCell ⟨g, off + i, none⟩ v2) ∧ ∀ b, F' b → F b ∨ w.heap.size ≤ b := by
  obtain ⟨vs, h1, h2, h3, hF⟩ := h
  have hl := h2.len
  have h1' := h1
  obtain ⟨g', off', cap, hv', a1, a2, hcl, hfz, hg⟩ := h1.elt (by omega)
  rw [hgv] at hv'
  simp only [Value.slice.injEq, Option.some.injEq, Addr.mk.injEq, and_true] at hv'
  obtain ⟨⟨rfl, rfl⟩, rfl, rfl⟩ := hv'
  have hvi : v = vs[i]'(by omega) := by
    have := hcl i _ (show vs[i]? = some (vs[i]'(by omega)) by simp [show i < vs.length by omega])
    rw [hc] at this
    simpa using this
  have hgF : F g := (hF g).2 (.inl (by rw [hgv]; simp [Value.ownBlock]))
  have hgo : gv.ownBlock = some g := by rw [hgv]; simp [Value.ownBlock]
  have hvg : v.ownBlock ≠ some g := fun hb => h3 v (by rw [hvi]; exact List.getElem_mem _) g hb hgo
  have hv2g : v2.ownBlock ≠ some g := fun hb => by
    rcases hb2 g hb with h | h
    · exact hvg h
    · omega
  have g2 : Own w2 T 1 gv vs.length vs := h1'.frame hk (fun b hb hv => by
    rw [hgo] at hb
    obtain rfl : g = b := by simpa using hb
    exact hvg hv)
  have hset : Own (w2.setCell ⟨g, off + i, none⟩ v2) T 1 gv vs.length (vs.set i v2) := by
    rw [hgv] at g2 ⊢
    have := g2.setAt (j := i) (by omega) v2
    exact this
  have hother : ∀ j (hj : j < vs.length), j ≠ i → ∀ b, vs[j].ownBlock = some b → v.ownBlock ≠ some b := fun j hj hji b hb => by
    rw [hvi]
    exact h2.apart j i hj (by omega) hji b hb
  refine ⟨fun b => gv.ownBlock = some b ∨ ∃ u ∈ vs.set i v2, u.ownBlock = some b, ⟨vs.set i v2, by simpa using hset, ⟨by simp [hl], ?_, ?_⟩, ?_, fun b => Iff.rfl⟩, ?_, ?_⟩
  · intro j hj hj'
    simp only [List.length_set] at hj hj'
    by_cases hji : i = j
    · subst hji
      simp only [List.getElem_set_self]
      exact ho.setCell (p := ⟨g, off + i, none⟩) hv2g _
    · simp only [List.getElem_set_ne hji]
      refine Own.setCell (p := ⟨g, off + i, none⟩) ((h2.own j hj hj').frame hk (fun b hb hv => hother j hj (Ne.symm hji) b hb hv)) ?_ _
      exact fun hb => h3 _ (List.getElem_mem _) g hb hgo
  · intro j k hj hk' hjk b hb hb'
    simp only [List.length_set] at hj hk'
    by_cases hji : i = j
    · subst hji
      simp only [List.getElem_set_self] at hb
      rw [List.getElem_set_ne hjk] at hb'
      rcases hb2 b hb with h | h
      · exact hother k hk' (Ne.symm hjk) b hb' h
      · have := h2.lt (List.getElem_mem hk') hb'
        omega
    · rw [List.getElem_set_ne hji] at hb
      by_cases hki : i = k
      · subst hki
        simp only [List.getElem_set_self] at hb'
        rcases hb2 b hb' with h | h
        · exact hother j hj (Ne.symm hji) b hb h
        · have := h2.lt (List.getElem_mem hj) hb
          omega
      · rw [List.getElem_set_ne hki] at hb'
        exact h2.apart j k hj hk' hjk b hb hb'
  · intro u hu b hb hgb
    rw [hgo] at hgb
    obtain rfl : g = b := by simpa using hgb
    rcases List.mem_or_eq_of_mem_set hu with hu | rfl
    · exact h3 u hu g hb hgo
    · exact hv2g hb
  · exact Kept.setCell (hk.mono (fun b _ hb => (hF b).2 (.inr ⟨v, by rw [hvi]; exact List.getElem_mem _, hb⟩))) (fun _ => hgF) _
  · rintro b (hb | ⟨u, hu, hb⟩)
    · exact .inl ((hF b).2 (.inl hb))
    · rcases List.mem_or_eq_of_mem_set hu with hu | rfl
      · exact .inl ((hF b).2 (.inr ⟨u, hu, hb⟩))
      · rcases hb2 b hb with h | h
        · exact .inl ((hF b).2 (.inr ⟨v, by rw [hvi]; exact List.getElem_mem _, h⟩))
        · exact .inr h

/-- One list more: 'gv = append(gv, v)'. w: where v lies; w2: behind the append. -/
theorem LsIs.snoc {w2 : World} {vs : List Value} (h1 : Own w T 1 gv vs.length vs) (h2 : VsIs e enc w vs Ys) (h3 : ∀ v ∈ vs, ∀ b, v.ownBlock = some b → gv.ownBlock ≠ some b) (hF : ∀ b, F b ↔ (gv.ownBlock = some b ∨ ∃ v ∈ vs, v.ownBlock = some b))
    {v gv2 : Value} {Y : List α} (ho : Own w e 1 v Y.length (cellsOf enc Y)) (hn : ∀ b, v.ownBlock = some b → ¬ F b)
    (hk : Kept (fun b => gv.ownBlock = some b) w w2) (hg : Own w2 T 1 gv2 (vs.length + 1) (vs ++ [v])) (hb2 : ∀ b, gv2.ownBlock = some b → gv.ownBlock = some b ∨ w.heap.size ≤ b) :
    ∃ F', LsIs T e enc w2 gv2 F' (Ys ++ [Y]) ∧ ∀ b, F' b → F b ∨ v.ownBlock = some b ∨ w.heap.size ≤ b := by
  have hl := h2.len
  have ov : Own w2 e 1 v Y.length (cellsOf enc Y) := ho.frame hk (fun b hb hg => hn b hb ((hF b).2 (.inl hg)))
  have ha : ∀ u ∈ vs, ∀ b, u.ownBlock = some b → v.ownBlock ≠ some b := fun u hu b hb hv => hn b hv ((hF b).2 (.inr ⟨u, hu, hb⟩))
  have h2' : VsIs e enc w2 vs Ys := h2.frame hk (fun u hu b hb hg => h3 u hu b hb hg)
  refine ⟨fun b => gv2.ownBlock = some b ∨ (∃ u ∈ vs, u.ownBlock = some b) ∨ v.ownBlock = some b, ⟨vs ++ [v], by simpa using hg, ⟨by simp [hl], ?_, ?_⟩, ?_, fun b => ?_⟩, ?_⟩
  · intro i hi hi'
    by_cases h4 : i < vs.length
    · rw [List.getElem_append_left h4]
      simp only [List.getElem_append_left (show i < Ys.length by omega)]
      exact h2'.own i h4 (by omega)
    · obtain rfl : i = vs.length := by simp at hi; omega
      have e1 : (vs ++ [v])[vs.length]'hi = v := by simp
      have e2 : (Ys ++ [Y])[vs.length]'hi' = Y := by simp [hl]
      rw [e1, e2]
      exact ov
  · intro i j hi hj hij b hb
    by_cases h4 : i < vs.length
    · rw [List.getElem_append_left h4] at hb
      by_cases h5 : j < vs.length
      · rw [List.getElem_append_left h5]
        exact h2.apart i j h4 h5 hij b hb
      · obtain rfl : j = vs.length := by simp at hj; omega
        rw [List.getElem_append_right (Nat.le_refl _)]
        simp only [Nat.sub_self, List.getElem_cons_zero]
        exact ha _ (List.getElem_mem h4) b hb
    · obtain rfl : i = vs.length := by simp at hi; omega
      rw [List.getElem_append_right (Nat.le_refl _)] at hb
      simp only [Nat.sub_self, List.getElem_cons_zero] at hb
      have h5 : j < vs.length := by simp at hj; omega
      rw [List.getElem_append_left h5]
      exact fun h' => ha _ (List.getElem_mem h5) b h' hb
  · intro u hu b hb hg2
    rcases hb2 b hg2 with h4 | h4
    · rcases List.mem_append.1 hu with hu | hu
      · exact h3 u hu b hb h4
      · simp only [List.mem_singleton] at hu
        subst hu
        exact hn b hb ((hF b).2 (.inl h4))
    · rcases List.mem_append.1 hu with hu | hu
      · have := h2.lt hu hb; omega
      · simp only [List.mem_singleton] at hu
        subst hu
        have := ho.lt hb; omega
  · simp only [List.mem_append, List.mem_singleton]
    constructor
    · rintro (h | ⟨u, hu, hb⟩ | h)
      · exact .inl h
      · exact .inr ⟨u, .inl hu, hb⟩
      · exact .inr ⟨v, .inr rfl, h⟩
    · rintro (h | ⟨u, hu | rfl, hb⟩)
      · exact .inl h
      · exact .inr (.inl ⟨u, hu, hb⟩)
      · exact .inr (.inr hb)
  · rintro b (h | ⟨u, hu, h⟩ | h)
    · rcases hb2 b h with h | h
      · exact .inl ((hF b).2 (.inl h))
      · exact .inr (.inr h)
    · exact .inl ((hF b).2 (.inr ⟨u, hu, h⟩))
    · exact .inr (.inl h)

end

end Go.Proofs.Ytncloielmfplpaa
