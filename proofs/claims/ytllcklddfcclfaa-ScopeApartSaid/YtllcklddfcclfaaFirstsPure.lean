/- Plain: the list of the first occurrences. -/
import Derived.Test.YtllcklddfcclfaaIdxIs
namespace Go.Proofs.Ytllcklddfcclfaa

def firsts {α : Type} [DecidableEq α] (xs : List α) : List α := xs.foldl putK []

theorem firsts_snoc {α : Type} [DecidableEq α] (xs : List α) (x : α) : firsts (xs ++ [x]) = putK (firsts xs) x := by simp [firsts, List.foldl_append]

theorem firsts_take {α : Type} [DecidableEq α] {xs : List α} {k : Nat} (h : k < xs.length) : firsts (xs.take (k + 1)) = putK (firsts (xs.take k)) xs[k] := by
  rw [List.take_succ_eq_append_getElem h, firsts_snoc]

theorem mem_putK {α : Type} [DecidableEq α] {ks : List α} {k x : α} : x ∈ putK ks k ↔ x ∈ ks ∨ x = k := by
  unfold putK
  split
  · rename_i h
    exact ⟨.inl, fun h' => h'.elim id (fun e => e ▸ h)⟩
  · simp

theorem mem_firsts {α : Type} [DecidableEq α] {xs : List α} {x : α} : x ∈ firsts xs ↔ x ∈ xs := by
  suffices h : ∀ (xs ks : List α), x ∈ xs.foldl putK ks ↔ x ∈ ks ∨ x ∈ xs by simpa [firsts] using h xs []
  intro xs
  induction xs with
  | nil => simp
  | cons y ys ih =>
    intro ks
    simp only [List.foldl_cons, ih, mem_putK, List.mem_cons, or_assoc]

theorem length_firsts {α : Type} [DecidableEq α] (xs : List α) : (firsts xs).length ≤ xs.length := by
  suffices h : ∀ (xs ks : List α), (xs.foldl putK ks).length ≤ ks.length + xs.length by simpa [firsts] using h xs []
  intro xs
  induction xs with
  | nil => simp
  | cons y ys ih =>
    intro ks
    simp only [List.foldl_cons, List.length_cons]
    have h1 := ih (putK ks y)
    have h2 : (putK ks y).length ≤ ks.length + 1 := by unfold putK; split <;> simp
    omega

theorem idxOf_putK {α : Type} [DecidableEq α] {ks : List α} {k x : α} (h : x ∈ ks) : (putK ks k).idxOf x = ks.idxOf x := by
  unfold putK
  split
  · rfl
  · simp [List.idxOf_append, h]

theorem length_putK {α : Type} [DecidableEq α] (ks : List α) (k : α) : (putK ks k).length = if k ∈ ks then ks.length else ks.length + 1 := by
  unfold putK
  split <;> simp

theorem getElem_putK {α : Type} [DecidableEq α] {ks : List α} {k : α} : (putK ks k)[ks.idxOf k]? = some k := by
  unfold putK
  split
  · rename_i h
    rw [List.getElem?_eq_getElem (List.idxOf_lt_length_iff.2 h)]
    simp
  · rename_i h
    rw [List.idxOf_eq_length h]
    simp

theorem idxOf_inj {α : Type} [DecidableEq α] {ks : List α} {x y : α} (hx : x ∈ ks) (h : ks.idxOf x = ks.idxOf y) : x = y := by
  have hlt := List.idxOf_lt_length_iff.2 hx
  have e1 : ks[ks.idxOf x] = x := List.getElem_idxOf hlt
  have hlt' : ks.idxOf y < ks.length := by rw [← h]; exact hlt
  have e2 : ks[ks.idxOf y] = y := List.getElem_idxOf hlt'
  rw [← e1, ← e2]
  simp only [h]

end Go.Proofs.Ytllcklddfcclfaa
