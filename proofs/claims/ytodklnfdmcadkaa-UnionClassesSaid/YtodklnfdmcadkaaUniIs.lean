/- What sets of cells in memory hold (plain; over whatever program). -/
import Derived.Test.YtodklnfdmcadkaaStkIs
import Derived.Test.YtodklnfdmcadkaaUniPure
namespace Go.Proofs.Ytodklnfdmcadkaa
open Go.RowKit
set_option linter.unusedVariables false
set_option linter.unusedSimpArgs false

def encC {α : Type} (enc : α → Value) (x : Cel α) : Value := .agg #[.int .i64 (x.1 : Int), .int .i64 (x.2.1 : Int), enc x.2.2]

theorem cellsOf_encC_get {α : Type} (enc : α → Value) (xs : List (Cel α)) {k j : Nat} (hk : k < xs.length) (hj : j < 3) : (cellsOf (encC enc) xs)[k * 3 + j]? = (encC enc xs[k]).cells.toList[j]? := by
  induction xs generalizing k with
  | nil => simp at hk
  | cons x xs ih =>
    show ((encC enc x).cells.toList ++ cellsOf (encC enc) xs)[k * 3 + j]? = _
    have hl : (encC enc x).cells.toList.length = 3 := rfl
    cases k with
    | zero => rw [List.getElem?_append_left (by omega)]; simp
    | succ k =>
      rw [List.getElem?_append_right (by omega), hl, show (k + 1) * 3 + j - 3 = k * 3 + j by omega]
      exact ih (by simpa using hk)

theorem cellsOf_encC_set {α : Type} (enc : α → Value) (xs : List (Cel α)) {k j : Nat} (hk : k < xs.length) (hj : j < 3) (u : Value) (y : Cel α) (hy : (encC enc y).cells.toList = (encC enc xs[k]).cells.toList.set j u) :
    (cellsOf (encC enc) xs).set (k * 3 + j) u = cellsOf (encC enc) (xs.set k y) := by
  induction xs generalizing k with
  | nil => simp at hk
  | cons x xs ih =>
    show ((encC enc x).cells.toList ++ cellsOf (encC enc) xs).set (k * 3 + j) u = _
    have hl : (encC enc x).cells.toList.length = 3 := rfl
    cases k with
    | zero =>
      rw [List.set_append_left _ _ (by omega)]
      simp only [List.getElem_cons_zero, Nat.zero_mul, Nat.zero_add] at hy ⊢
      rw [← hy]
      rfl
    | succ k =>
      rw [List.set_append_right _ _ (by omega), hl, show (k + 1) * 3 + j - 3 = k * 3 + j by omega]
      rw [ih (by simpa using hk) (by simpa using hy)]
      rfl

/-- p points at cells cs of the count cnt; F: its blocks. -/
def UMem {α : Type} (T e : TypeId) (enc : α → Value) (w : World) (p : Value) (F : Nat → Prop) (cs : List (Cel α)) (cnt : Nat) : Prop :=
  ∃ sb v, p = .pointer (some ⟨sb, 0, none⟩) ∧ w.heap[sb]? = some (.cells #[v, .int .i64 (cnt : Int)] T (0, 0)) ∧ Own w e 3 v cs.length (cellsOf (encC enc) cs) ∧ v.ownBlock ≠ some sb ∧ ∀ b, F b ↔ (b = sb ∨ v.ownBlock = some b)

section
variable {α : Type} {T e : TypeId} {enc : α → Value} {w w' : World} {p : Value} {F : Nat → Prop} {cs : List (Cel α)} {cnt : Nat}

theorem UMem.lt (h : UMem T e enc w p F cs cnt) {b : Nat} (hb : F b) : b < w.heap.size := by
  obtain ⟨sb, v, rfl, h1, h2, h3, hF⟩ := h
  rcases (hF b).1 hb with rfl | hv
  · exact heap_lt h1
  · exact h2.lt hv

theorem UMem.frame {G : Nat → Prop} (h : UMem T e enc w p F cs cnt) (hk : Kept G w w') (hd : ∀ b, F b → ¬ G b) : UMem T e enc w' p F cs cnt := by
  obtain ⟨sb, v, rfl, h1, h2, h3, hF⟩ := h
  exact ⟨sb, v, rfl, (hk.block sb (heap_lt h1) (hd _ ((hF _).2 (.inl rfl)))).trans h1, h2.frame hk (fun b hb => hd _ ((hF _).2 (.inr hb))), h3, hF⟩

end

/-- p points at sets: ρ tells the least of each one's set; the values. -/
def UniIs {α : Type} (T e : TypeId) (enc : α → Value) (w : World) (p : Value) (F : Nat → Prop) (ρ : Nat → Nat) (vals : List α) : Prop :=
  ∃ cs, UMem T e enc w p F cs (roots cs.length ρ) ∧ UInv cs ρ ∧ URing cs ρ ∧ cs.map (·.2.2) = vals

section
variable {α : Type} {T e : TypeId} {enc : α → Value} {w w' : World} {p : Value} {F : Nat → Prop} {ρ : Nat → Nat} {vals : List α}

theorem UniIs.lt (h : UniIs T e enc w p F ρ vals) {b : Nat} (hb : F b) : b < w.heap.size := by
  obtain ⟨cs, h1, _⟩ := h
  exact h1.lt hb

theorem UniIs.frame {G : Nat → Prop} (h : UniIs T e enc w p F ρ vals) (hk : Kept G w w') (hd : ∀ b, F b → ¬ G b) : UniIs T e enc w' p F ρ vals := by
  obtain ⟨cs, h1, h2⟩ := h
  exact ⟨cs, h1.frame hk hd, h2⟩

theorem UniIs.le (h : UniIs T e enc w p F ρ vals) {j : Nat} (hj : j < vals.length) : ρ j ≤ j := by
  obtain ⟨cs, _, h2, _, rfl⟩ := h
  exact h2.le j (by simpa using hj)

theorem UniIs.idem (h : UniIs T e enc w p F ρ vals) {j : Nat} (hj : j < vals.length) : ρ (ρ j) = ρ j := by
  obtain ⟨cs, _, h2, _, rfl⟩ := h
  exact h2.idem j (by simpa using hj)

theorem UniIs.made (w : World) : UniIs T e enc (w.alloc (.cells #[.slice none 0 0, .int .i64 0] T)) (.pointer (some ⟨w.heap.size, 0, none⟩)) (fun b => b = w.heap.size) id [] :=
  ⟨[], ⟨w.heap.size, .slice none 0 0, rfl, (by show (w.heap.push _)[w.heap.size]? = _; simp [roots]), Own.nil _ _ _, by simp [Value.ownBlock], fun b => by simp [Value.ownBlock]⟩,
    ⟨fun j hj => by simp at hj, fun j hj => by simp at hj, fun j hj => by simp at hj, fun j hj => by simp at hj, fun j hj => by simp at hj⟩, ⟨fun _ => [], fun a ha => by simp at ha⟩, rfl⟩

end

theorem vals_map {α : Type} {cs cs' : List (Cel α)} (h : cs'.map (·.2) = cs.map (·.2)) : cs'.map (·.2.2) = cs.map (·.2.2) := by
  have := congrArg (List.map (·.2)) h
  simpa [List.map_map, Function.comp_def] using this

/-- What Join makes of the least ones. -/
def joinN (ρ : Nat → Nat) (i j : Nat) : Nat → Nat := joinR ρ (min (ρ i) (ρ j)) (max (ρ i) (ρ j))

theorem joinN_same {ρ : Nat → Nat} {i j : Nat} (h : ρ i = ρ j) : joinN ρ i j = ρ := by
  funext x
  unfold joinN joinR
  rw [h]
  simp only [Nat.min_self, Nat.max_self]
  split
  · rename_i e; exact e.symm
  · rfl

/-- The cells of a set. -/
def clsOf (n : Nat) (ρ : Nat → Nat) (a : Nat) : List Int := ((List.range n).filter fun k => decide (ρ k = a)).map fun (k : Nat) => (k : Int)

end Go.Proofs.Ytodklnfdmcadkaa
