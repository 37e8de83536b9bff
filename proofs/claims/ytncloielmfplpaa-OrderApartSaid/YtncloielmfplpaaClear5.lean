/- clear of a whole slice of one-cell elements: what it holds (plain; over whatever program). -/
import Derived.Test.YtncloielmfplpaaStkIs
import Derived.WalkKit
namespace Go.Proofs.Ytncloielmfplpaa
open Go.RowKit
set_option linter.unusedVariables false
set_option linter.unusedSimpArgs false

theorem zeroCells_one (z : Value) (n : Nat) : (Builtin.zeroCells #[z] n).toList = List.replicate n z := by
  apply List.ext_getElem
  · simp [size_zeroCells]
  · intro i h1 h2
    simp [Builtin.zeroCells, Nat.mod_one]

theorem run_clear_all {P : Program} {T e : TypeId} {z : Value} {bytes : Nat} (S : SlT P T e z 1 bytes) (hzc : z.cells = #[z]) (hz1 : z.oneCell' = true) (ty : TypeId) {w : World} {g off n c : Nat} {xs : List Value} (h : Own w e 1 (.slice (some ⟨g, off, none⟩) n c) n xs) :
    ∃ w', (Builtin.clear_ #[T] ty #[.slice (some ⟨g, off, none⟩) n c]).run P w = .ok (.tuple #[]) w' ∧ Own w' e 1 (.slice (some ⟨g, off, none⟩) n c) n (List.replicate n z) ∧ Kept (fun b => b = g) w w' ∧ w'.heap.size = w.heap.size := by
  obtain ⟨i, hi, hz, hs, hb⟩ := S.info
  have ht := S.und
  cases n with
  | zero =>
    refine ⟨w, by simp [Builtin.clear_, run_underlying ht], ?_, Kept.refl _ _, rfl⟩
    have : xs = [] := List.eq_nil_of_length_eq_zero (by simpa using h.1)
    subst this
    exact h
  | succ m =>
    rcases h.2 with ⟨hv, _⟩ | ⟨g', off', cap, cur, hv, hg, a1, a2, a3, a4⟩
    · simp at hv
    · simp only [Value.slice.injEq, Option.some.injEq, Addr.mk.injEq, and_true, true_and] at hv
      obtain ⟨⟨rfl, rfl⟩, rfl⟩ := hv
      have hl : (Builtin.zeroCells z.cells (m + 1)).toList.length = m + 1 := by
        rw [hzc, zeroCells_one, List.length_replicate]
      have h1' : ∀ v ∈ (Builtin.zeroCells z.cells (m + 1)).toList, v.oneCell' = true := by
        intro v hv'
        rw [hzc, zeroCells_one] at hv'
        rw [List.eq_of_mem_replicate hv']
        exact hz1
      have hst := run_storeCells_at P g off e _ 0 cur w hg (by rw [hl]; omega) h1'
      simp only [Nat.add_zero] at hst
      refine ⟨w.setRow g (cur.toList.take off ++ (Builtin.zeroCells z.cells (m + 1)).toList ++ cur.toList.drop (off + (Builtin.zeroCells z.cells (m + 1)).toList.length)).toArray, ?_, ⟨by simp, .inr ⟨g, off, c, _, rfl, setRow_heap w g cur _ e _ hg, a1, a2, ?_, ?_⟩⟩, ⟨rfl, rfl, rfl, by simp, fun j _ hj => setRow_other w g j _ (fun e => hj e)⟩, by simp⟩
      · simp [Builtin.clear_, run_underlying ht, zeroValue, typeInfo, hi, hz, hst]
      · simp only [List.size_toArray, List.length_append, List.length_take, List.length_drop, Array.length_toList]
        rw [Array.length_toList] at hl
        rw [hl]
        omega
      · have e2 : (cur.toList.take off).length = off := by
          rw [List.length_take, Array.length_toList]; omega
        rw [List.append_assoc, List.drop_append_of_le_length (by omega), List.drop_of_length_le (by omega), List.nil_append, hzc, zeroCells_one]
        exact List.take_left' (by simp)

end Go.Proofs.Ytncloielmfplpaa
