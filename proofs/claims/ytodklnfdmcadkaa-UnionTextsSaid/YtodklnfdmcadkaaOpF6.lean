/- The script's struct of layer 6. -/
import Derived.Test.YtodklnfdmcadkaaArgsR
namespace Go.Proofs.Ytodklnfdmcadkaa
open Go.RowKit
set_option linter.unusedVariables false
set_option linter.unusedSimpArgs false

theorem getElem_four {f0 f1 f2 f3 : Field} {j : Nat} {f : Field} (h : #[f0, f1, f2, f3][j]? = some f) : (j = 0 ∧ f = f0) ∨ (j = 1 ∧ f = f1) ∨ (j = 2 ∧ f = f2) ∨ (j = 3 ∧ f = f3) := by
  match j, h with
  | 0, h => exact .inl ⟨rfl, by simpa using h.symm⟩
  | 1, h => exact .inr (.inl ⟨rfl, by simpa using h.symm⟩)
  | 2, h => exact .inr (.inr (.inl ⟨rfl, by simpa using h.symm⟩))
  | 3, h => exact .inr (.inr (.inr ⟨rfl, by simpa using h.symm⟩))
  | n + 4, h => simp at h

theorem opFields6 : ∃ fs, Try.prog.underlying 45 = some (.struct fs) ∧ fs.size = 4 ∧ IntFields Try.prog fs := by
  refine ⟨_, Try.underlying45, rfl, ?_⟩
  intro j f h
  rcases getElem_four h with ⟨rfl, rfl⟩ | ⟨rfl, rfl⟩ | ⟨rfl, rfl⟩ | ⟨rfl, rfl⟩
  · exact ⟨rfl, Try.underlying3, by kernel_rfl⟩
  · exact ⟨rfl, Try.underlying3, by kernel_rfl⟩
  · exact ⟨rfl, Try.underlying3, by kernel_rfl⟩
  · exact ⟨rfl, Try.underlying3, by kernel_rfl⟩

end Go.Proofs.Ytodklnfdmcadkaa
