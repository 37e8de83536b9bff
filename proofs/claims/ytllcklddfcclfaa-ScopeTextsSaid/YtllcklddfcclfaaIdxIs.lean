/- What an index in memory holds (plain; over whatever program): the things ks, and the map from each to its place. -/
import Derived.Test.YtllcklddfcclfaaBase
namespace Go.Proofs.Ytllcklddfcclfaa
open Go.RowKit

/-- The cells of a list of things. -/
def cellsOf {α : Type} (enc : α → Value) (ks : List α) : List Value := ks.flatMap fun k => (enc k).cells.toList

theorem cellsOf_append {α : Type} (enc : α → Value) (a b : List α) : cellsOf enc (a ++ b) = cellsOf enc a ++ cellsOf enc b := by simp [cellsOf]
theorem cellsOf_nil {α : Type} (enc : α → Value) : cellsOf enc [] = [] := rfl
theorem cellsOf_one {α : Type} (enc : α → Value) (a : α) : cellsOf enc [a] = (enc a).cells.toList := by simp [cellsOf]

def numbered {α : Type} (enc : α → Value) (ks : List α) : List (Value × Value) := ks.zipIdx.map fun q => (enc q.1, .int .i64 (q.2 : Nat))

theorem numbered_snoc {α : Type} (enc : α → Value) (ks : List α) (k : α) : numbered enc (ks ++ [k]) = numbered enc ks ++ [(enc k, .int .i64 (ks.length : Nat))] := by
  simp [numbered, List.zipIdx_append]

theorem numbered_get {α : Type} (enc : α → Value) (ks : List α) (j : Nat) : (numbered enc ks)[j]? = (ks[j]?).map fun k => (enc k, .int .i64 (j : Nat)) := by
  simp [numbered, List.getElem?_map, List.getElem?_zipIdx]
  cases ks[j]? <;> rfl

theorem numbered_keys {α : Type} {enc : α → Value} {ks : List α} {k : α} (inj : ∀ a b, enc a = enc b → a = b) (h : k ∉ ks) : ∀ p ∈ numbered enc ks, p.1 ≠ enc k := by
  intro p hp e
  obtain ⟨j, hj⟩ := List.mem_iff_getElem?.1 hp
  rw [numbered_get] at hj
  cases hk : ks[j]? with
  | none => rw [hk] at hj; cases hj
  | some a =>
    rw [hk] at hj
    simp only [Option.map_some, Option.some.injEq] at hj
    subst hj
    have := inj _ _ e
    subst this
    exact h (List.mem_of_getElem? hk)

/-- p points at an index that holds the things ks; F: its blocks. T: the struct's type, e the things' type, sz their cells. -/
def IdxIs {α : Type} (T e : TypeId) (sz : Nat) (enc : α → Value) (K : Value → Prop) (w : World) (p : Value) (F : Nat → Prop) (ks : List α) : Prop :=
  ∃ ib bm v, p = .pointer (some ⟨ib, 0, none⟩) ∧ w.heap[ib]? = some (.cells #[.map (some bm), v] T (0, 0)) ∧ MapIs w K bm (numbered enc ks) ∧ Own w e sz v ks.length (cellsOf enc ks) ∧
    ib ≠ bm ∧ v.ownBlock ≠ some ib ∧ v.ownBlock ≠ some bm ∧ ks.Nodup ∧ ∀ b, F b ↔ (b = ib ∨ b = bm ∨ v.ownBlock = some b)

section
variable {α : Type} {T e : TypeId} {sz : Nat} {enc : α → Value} {K : Value → Prop} {w w' : World} {p : Value} {F : Nat → Prop} {ks : List α}

theorem IdxIs.lt (h : IdxIs T e sz enc K w p F ks) {b : Nat} (hb : F b) : b < w.heap.size := by
  obtain ⟨ib, bm, v, rfl, h1, h2, h3, _, _, _, _, hF⟩ := h
  rcases (hF b).1 hb with rfl | rfl | hv
  · exact heap_lt h1
  · exact h2.lt
  · exact h3.lt hv

theorem IdxIs.frame {G : Nat → Prop} (h : IdxIs T e sz enc K w p F ks) (hk : Kept G w w') (hd : ∀ b, F b → ¬ G b) : IdxIs T e sz enc K w' p F ks := by
  obtain ⟨ib, bm, v, rfl, h1, h2, h3, h4, h5, h6, h7, hF⟩ := h
  exact ⟨ib, bm, v, rfl, (hk.block ib (heap_lt h1) (hd _ ((hF _).2 (.inl rfl)))).trans h1, h2.frame hk (hd _ ((hF _).2 (.inr (.inl rfl)))), h3.frame hk (fun b hb => hd _ ((hF _).2 (.inr (.inr hb)))), h4, h5, h6, h7, hF⟩

end

/-- The list behind 'Number(k)'. -/
def putK {α : Type} [DecidableEq α] (ks : List α) (k : α) : List α := if k ∈ ks then ks else ks ++ [k]

/-- What Number leaves where the thing is new. -/
theorem IdxIs.grow {α : Type} {T e : TypeId} {sz : Nat} {enc : α → Value} {K : Value → Prop} {w w1 w2 : World} {ib bm : Nat} {v v2 : Value} {ks : List α} {k : α} {o : Obj}
    (hm1 : MapIs w1 K bm (numbered enc ks ++ [(enc k, .int .i64 (ks.length : Nat))])) (hk1 : Kept (fun i => i = bm) w w1) (hib : ib < w.heap.size) (hbm : bm < w.heap.size)
    (hne : ib ≠ bm) (hv1 : v.ownBlock ≠ some ib) (hv2 : v.ownBlock ≠ some bm) (hnd : ks.Nodup) (hk : k ∉ ks)
    (hk2 : Kept (fun b => v.ownBlock = some b) (w1.alloc o) w2) (hown2 : Own w2 e sz v2 (ks.length + 1) (cellsOf enc ks ++ (enc k).cells.toList)) (hb2 : ∀ b, v2.ownBlock = some b → v.ownBlock = some b ∨ (w1.alloc o).heap.size ≤ b)
    (e2 : w2.heap[ib]? = some (.cells #[.map (some bm), v] T (0, 0))) :
    ∃ F', IdxIs T e sz enc K (w2.setCell ⟨ib, 1, none⟩ v2) (.pointer (some ⟨ib, 0, none⟩)) F' (ks ++ [k]) ∧ Kept (fun b => b = ib ∨ b = bm ∨ v.ownBlock = some b) w (w2.setCell ⟨ib, 1, none⟩ v2) ∧
      ∀ b, F' b → (b = ib ∨ b = bm ∨ v.ownBlock = some b) ∨ w.heap.size ≤ b := by
  have hs1 : w.heap.size ≤ w1.heap.size := hk1.size
  have hs2 : w1.heap.size + 1 ≤ w2.heap.size := by have := hk2.size; simpa using this
  have hn2 : ∀ b, v2.ownBlock = some b → b ≠ ib ∧ b ≠ bm := by
    intro b hb
    rcases hb2 b hb with h | h
    · exact ⟨fun e => hv1 (by rw [h, e]), fun e => hv2 (by rw [h, e])⟩
    · simp at h
      constructor <;> intro e <;> omega
  refine ⟨fun b => b = ib ∨ b = bm ∨ v2.ownBlock = some b, ⟨ib, bm, v2, rfl, ?_, ?_, ?_, hne, ?_, ?_, ?_, fun _ => Iff.rfl⟩, ?_, ?_⟩
  · have := heap_set (o := 1) e2 v2
    simpa using this
  · rw [numbered_snoc]
    refine ((hm1.kept (Below.heap_alloc _ _ _ hm1.lt)).frame hk2 (fun h => hv2 h)).kept (heap_set_ne (fun e => hne e.symm) _)
  · rw [List.length_append, cellsOf_append, cellsOf_one]
    exact hown2.setCell (fun h => (hn2 ib h).1 rfl) _
  · exact fun h => (hn2 ib h).1 rfl
  · exact fun h => (hn2 bm h).2 rfl
  · exact List.nodup_append.2 ⟨hnd, by simp, fun a ha b hb => by simp at hb; subst hb; exact fun e => hk (e ▸ ha)⟩
  · refine Kept.setCell ?_ (fun _ => .inl rfl) _
    refine Kept.trans' ((hk1.mono (fun i _ h => .inr (.inl h))).alloc o) hk2 (fun i _ h => .inr (.inr h))
  · rintro b (h | h | h)
    · exact .inl (.inl h)
    · exact .inl (.inr (.inl h))
    · rcases hb2 b h with h | h
      · exact .inl (.inr (.inr h))
      · simp at h
        exact .inr (by omega)

end Go.Proofs.Ytllcklddfcclfaa
