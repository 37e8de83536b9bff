/- An argument that is a slice of ints, opened. -/
import Derived.Test.YtllcklddfcclfaaSameI
import Derived.Test.YtllcklddfcclfaaLawFrame
namespace Go.Proofs.Ytllcklddfcclfaa
open Go.ChangeShapes Go.WideShapes Go.ChangeAt Go.RowKit
set_option linter.unusedVariables false
set_option linter.unusedSimpArgs false

/-- A number that an int holds. -/
def InR (x : Int) : Prop := -9223372036854775808 ≤ x ∧ x ≤ 9223372036854775807

theorem inR_of_wf {x : Int} (h : (Lit.int .i64 x).wf = true) : InR x := by
  simpa [InR, Lit.wf, IntKind.min, IntKind.max, IntKind.signed, IntKind.bits] using h

set_option maxRecDepth 100000 in
theorem open_ints_arg {H : Type} {enc : TypeId × Value → H} {W : World} {v : Value} {d : DataW H} {ps : List MemPlace} {base : Nat}
    (hok : Value.okWide Try.prog W .any base 22 v) (h : DataW.Trod enc Try.prog W 0 (fun _ => true) true 22 v d ps) :
    ∃ xs : List Int, Rd W 1 v xs.length (cellsOf encI xs) ∧ (∀ x ∈ xs, InR x) ∧
      (∀ {ts : List TypeId} {ds : List (DataW H)} {j : Nat}, (DataW.weightsEach Try.prog ts ds).all (· ≤ reachBytes) = true → ts[j]? = some 22 → ds[j]? = some d → xs.length * 8 ≤ 140737488351232) := by
  obtain ⟨a0, len, cap, rfl⟩ := okWide_slice Try.underlying22 hok
  obtain ⟨fuel, hf⟩ := h
  rcases open_ints Try.underlying22 Try.underlying3 (by kernel_rfl) hf with ⟨hcs, hx⟩ | ⟨a, len', cap', zs, hcs, _, hl, hm, hz, hx, hcell, hwz⟩
  · simp [Value.cells] at hcs
    obtain ⟨rfl, rfl, rfl⟩ := hcs
    exact ⟨[], ⟨by simp [cellsOf], none, 0, rfl, Nat.le_refl _, Nat.zero_le _, fun _ => ⟨rfl, rfl⟩, fun _ h => by cases h⟩, by simp, fun _ _ _ => by simp⟩
  · simp [Value.cells] at hcs
    obtain ⟨rfl, rfl, rfl⟩ := hcs
    simp only [if_true] at hz
    simp only [Prod.mk.injEq] at hx
    have hlen : (zs.take len).length = len := by rw [List.length_take]; omega
    refine ⟨zs.take len, ⟨by rw [cellsOf_encI]; simp, some a, cap, by rw [hlen], by rw [hlen]; exact hl, hm, (fun h => by cases h), ?_⟩, fun x hx => inR_of_wf (hwz x (List.mem_of_mem_take hx)), ?_⟩
    · intro ad had j u hu
      cases had
      rw [cellsOf_encI, List.getElem?_map, Option.map_eq_some_iff] at hu
      obtain ⟨z, hz1, rfl⟩ := hu
      rw [List.getElem?_take] at hz1
      split at hz1
      · have hj := (List.getElem?_eq_some_iff.1 hz1).1
        rw [hcell j hj]
        simp [List.getD, hz1]
      · cases hz1
    · intro ts ds j hsz ht hd
      have hb : Try.prog.bytesOf 3 = 8 := by kernel_rfl
      have := sized_slice hsz ht (by rw [hd, hx.1]) Try.underlying22
      rw [hb] at this
      simp only [lits, List.length_map, List.length_take, List.length_drop, reachBytes] at this
      rw [hlen]
      omega

end Go.Proofs.Ytllcklddfcclfaa
