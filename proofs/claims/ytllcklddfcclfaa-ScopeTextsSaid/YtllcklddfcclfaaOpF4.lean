/- The script's struct of layer 4. -/
import Derived.Test.YtllcklddfcclfaaArgsR
namespace Go.Proofs.Ytllcklddfcclfaa
open Go.RowKit
set_option linter.unusedVariables false
set_option linter.unusedSimpArgs false

theorem getElem_three {f0 f1 f2 : Field} {j : Nat} {f : Field} (h : #[f0, f1, f2][j]? = some f) : (j = 0 ∧ f = f0) ∨ (j = 1 ∧ f = f1) ∨ (j = 2 ∧ f = f2) := by
  match j, h with
  | 0, h => exact .inl ⟨rfl, by simpa using h.symm⟩
  | 1, h => exact .inr (.inl ⟨rfl, by simpa using h.symm⟩)
  | 2, h => exact .inr (.inr ⟨rfl, by simpa using h.symm⟩)
  | n + 3, h => simp at h

theorem opFields4 : ∃ fs, Try.prog.underlying 41 = some (.struct fs) ∧ fs.size = 3 ∧ IntFields Try.prog fs := by
  refine ⟨_, Try.underlying41, rfl, ?_⟩
  intro j f h
  rcases getElem_three h with ⟨rfl, rfl⟩ | ⟨rfl, rfl⟩ | ⟨rfl, rfl⟩
  · exact ⟨rfl, Try.underlying3, by kernel_rfl⟩
  · exact ⟨rfl, Try.underlying3, by kernel_rfl⟩
  · exact ⟨rfl, Try.underlying3, by kernel_rfl⟩

end Go.Proofs.Ytllcklddfcclfaa
