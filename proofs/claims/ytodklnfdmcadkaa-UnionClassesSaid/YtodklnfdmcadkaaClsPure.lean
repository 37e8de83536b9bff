/- Plain: what Join keeps; the members of a set in order. -/
import Derived.Test.YtodklnfdmcadkaaUniIs
namespace Go.Proofs.Ytodklnfdmcadkaa
set_option linter.unusedVariables false
set_option linter.unusedSimpArgs false

theorem joinN_keep {ρ : Nat → Nat} {i j a b : Nat} (h : ρ a = ρ b) : joinN ρ i j a = joinN ρ i j b := by
  unfold joinN joinR
  rw [h]

theorem joinN_eq (ρ : Nat → Nat) (i j : Nat) : joinN ρ i j i = joinN ρ i j j := by
  unfold joinN joinR
  split <;> split <;> omega

/-- The members of a set, as numbers without a sign. -/
def mem0 (n : Nat) (ρ : Nat → Nat) (a : Nat) : List Nat := (List.range n).filter fun k => decide (ρ k = a)

theorem clsOf_map (n : Nat) (ρ : Nat → Nat) (a : Nat) : clsOf n ρ a = (mem0 n ρ a).map fun (k : Nat) => (k : Int) := rfl

theorem mem_mem0 {n : Nat} {ρ : Nat → Nat} {a k : Nat} : k ∈ mem0 n ρ a ↔ k < n ∧ ρ k = a := by simp [mem0]

theorem mem0_lt (n : Nat) (ρ : Nat → Nat) (a : Nat) : (mem0 n ρ a).Pairwise (· < ·) := List.pairwise_lt_range.filter _

theorem mem0_asc {n : Nat} {ρ : Nat → Nat} {a i j : Nat} (hij : i < j) (hj : j < (mem0 n ρ a).length) : (mem0 n ρ a)[i]'(by omega) < (mem0 n ρ a)[j] :=
  List.pairwise_iff_getElem.1 (mem0_lt n ρ a) i j (by omega) hj hij

theorem mem0_pos {n : Nat} {ρ : Nat → Nat} {i : Nat} (hi : i < n) : 0 < (mem0 n ρ (ρ i)).length := List.length_pos_of_mem (mem_mem0.2 ⟨hi, rfl⟩)

theorem mem0_head {n : Nat} {ρ : Nat → Nat} {a : Nat} (ha : a < n) (hr : ρ a = a) (hle : ∀ j, j < n → ρ j ≤ j) (h0 : 0 < (mem0 n ρ a).length) : (mem0 n ρ a)[0] = a := by
  have hm : a ∈ mem0 n ρ a := mem_mem0.2 ⟨ha, hr⟩
  obtain ⟨t, ht, e⟩ := List.mem_iff_getElem.1 hm
  have h1 := mem_mem0.1 (List.getElem_mem h0)
  have h2 := hle _ h1.1
  rcases Nat.eq_zero_or_pos t with rfl | hp
  · exact e
  · have := mem0_asc hp ht
    omega

theorem take_mem {l : List Nat} {i j : Nat} (hj : j < l.length) : decide (i ∈ l.take (j + 1)) = (decide (i ∈ l.take j) || decide (l[j] = i)) := by
  rw [List.take_succ_eq_append_getElem hj, Bool.eq_iff_iff]
  simp only [decide_eq_true_eq, Bool.or_eq_true, List.mem_append, List.mem_singleton]
  exact or_congr Iff.rfl eq_comm

end Go.Proofs.Ytodklnfdmcadkaa
