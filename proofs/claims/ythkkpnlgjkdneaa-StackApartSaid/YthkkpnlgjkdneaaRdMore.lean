/- Heads and tails of readable slices. -/
import Derived.Test.YthkkpnlgjkdneaaStkIs
import Derived.Deep.SlicePairs
namespace Go.Proofs.Ythkkpnlgjkdneaa
open Go.RowKit
set_option linter.unusedVariables false
set_option linter.unusedSimpArgs false

theorem Rd.head {w : World} {sz : Nat} {a : Option Addr} {n c : Nat} {xs : List Value} (h : Rd w sz (.slice a n c) n xs) {k : Nat} (hk : k ≤ n) : Rd w sz (.slice a k c) k (xs.take (k * sz)) := by
  obtain ⟨hl, a', c', hv, h1, h2, h3, h4⟩ := h
  simp only [Value.slice.injEq, true_and] at hv
  obtain ⟨rfl, rfl⟩ := hv
  have hkn : k * sz ≤ n * sz := Nat.mul_le_mul_right _ hk
  refine ⟨by rw [List.length_take, hl]; omega, a, c, rfl, by omega, h2, fun e => by have := h3 e; omega, fun ad had j u hu => ?_⟩
  rw [List.getElem?_take] at hu
  split at hu
  · exact h4 ad had j u hu
  · cases hu

theorem Rd.tailV {w : World} {sz : Nat} {a : Option Addr} {n c : Nat} {xs : List Value} (h : Rd w sz (.slice a n c) n xs) {k : Nat} (hk : k ≤ n) : Rd w sz (tailV a n c k sz) (n - k) (xs.drop (k * sz)) := by
  obtain ⟨hl, a', c', hv, h1, h2, h3, h4⟩ := h
  simp only [Value.slice.injEq, true_and] at hv
  obtain ⟨rfl, rfl⟩ := hv
  refine ⟨by rw [List.length_drop, hl, Nat.sub_mul], _, _, rfl, by omega, by omega, ?_, ?_⟩
  · intro e
    by_cases hck : c = k
    · omega
    · rw [if_neg hck] at e
      cases a with
      | none => have := h3 rfl; omega
      | some ad => cases e
  · intro ad had j u hu
    rw [List.getElem?_drop] at hu
    by_cases hck : c = k
    · have hlt := (List.getElem?_eq_some_iff.1 hu).1
      have : n * sz ≤ k * sz := Nat.mul_le_mul_right _ (by omega)
      omega
    · rw [if_neg hck] at had
      cases a with
      | none => cases had
      | some a0 =>
        simp only [Option.map_some, Option.some.injEq] at had
        subst had
        rw [Go.Deep.add_add]
        exact h4 a0 rfl _ u hu

end Go.Proofs.Ythkkpnlgjkdneaa
