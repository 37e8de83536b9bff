/- An argument that is a slice of arrays of numbers, opened. -/
import Derived.Test.YtncloielmfplpaaArgsR
namespace Go.Proofs.Ytncloielmfplpaa
open Go.ChangeShapes Go.WideShapes Go.ChangeAt Go.RowKit
set_option linter.unusedVariables false
set_option linter.unusedSimpArgs false

set_option maxRecDepth 100000 in
theorem open_arrays_arg {H : Type} {enc : TypeId × Value → H} {W : World} {v : Value} {d : DataW H} {ps : List MemPlace} {base : Nat} {T e t : TypeId} {m0 : Nat} (ht : Try.prog.underlying T = some (.slice e)) (he : Try.prog.underlying e = some (.array m0 t)) (hi : Try.prog.underlying t = some (.int .i64)) (h1c : Try.prog.cellsOf t = 1) (hc : Try.prog.cellsOf e = m0)
    (hok : Value.okWide Try.prog W .any base T v) (h : DataW.Trod enc Try.prog W 0 (fun _ => true) true T v d ps) :
    ∃ xs : List (List Int), RdRows W m0 v xs ∧ (∀ r ∈ xs, r.length = m0 ∧ ∀ x ∈ r, InR x) ∧ xs.length ≤ Rows.uptoBulk d ∧
      (∀ {ts : List TypeId} {ds : List (DataW H)} {j : Nat}, (DataW.weightsEach Try.prog ts ds).all (· ≤ reachBytes) = true → ts[j]? = some T → ds[j]? = some d → xs.length * Try.prog.bytesOf e ≤ 140737488351232) := by
  obtain ⟨a0, len, cap, rfl⟩ := okWide_slice ht hok
  obtain ⟨fuel, hf⟩ := h
  rcases Go.Deep.open_slice ht hf with ⟨hcs, hx⟩ | ⟨a, len', cap', m, n, D, Pl, hcs, _, hl, hm, hmm, hx, hcell⟩
  · simp [Value.cells] at hcs
    obtain ⟨rfl, rfl, rfl⟩ := hcs
    exact ⟨[], ⟨none, 0, rfl, Nat.le_refl _, Nat.zero_le _, fun _ => ⟨rfl, rfl⟩, fun _ h => by cases h⟩, by simp, Nat.zero_le _, fun _ _ _ => by simp⟩
  · simp [Value.cells] at hcs
    obtain ⟨rfl, rfl, rfl⟩ := hcs
    simp only [Prod.mk.injEq] at hx
    have hlm : len ≤ m := by rw [hmm]; split <;> omega
    have each : ∀ i, i < len → ∃ r : List Int, r.length = m0 ∧ (∀ x ∈ r, InR x) ∧ ∀ j, j < m0 → W.cell? (a.add (i * m0 + j)) = some (.int .i64 (r.getD j 0)) := by
      intro i hi'
      obtain ⟨cs', h1, h2⟩ := hcell i (by omega)
      rw [hc] at h1
      obtain ⟨_, hlen, hcl⟩ := World.cells?_some h1
      obtain ⟨xs, k, hk, hxy, _, hxl, hfl⟩ := DataW.trod_array he h2
      have one : ∀ j, j < m0 → ∃ x : Int, cs'[j]? = some (.int .i64 x) ∧ InR x := by
        intro j hj
        have h6 := hfl j hj
        rw [h1c, List.getElem?_eq_getElem (by omega)] at h6
        obtain ⟨x, e0, _, wa⟩ := DataW.trod_int hi h6
        refine ⟨x, ?_, inR_of_wf wa⟩
        have := congrArg (·[0]?) e0
        simpa using this
      obtain ⟨q, hq⟩ := Go.Deep.choose_lt one
      refine ⟨(List.range m0).map q, by simp, ?_, ?_⟩
      · intro x hx
        obtain ⟨j, hj, rfl⟩ := List.mem_map.1 hx
        exact (hq j (List.mem_range.1 hj)).2
      · intro j hj
        have h3 := hcl j hj
        have h4 := (hq j hj).1
        rw [List.getElem?_eq_some_iff] at h4
        obtain ⟨h5, h6⟩ := h4
        rw [Go.Deep.add_add, List.getElem?_eq_getElem h5, h6] at h3
        simpa [List.getD, hj] using h3
    obtain ⟨q, hq⟩ := Go.Deep.choose_lt each
    refine ⟨(List.range len).map q, ⟨some a, cap, by simp, by simpa using hl, hm, (fun h => by cases h), ?_⟩, ?_, ?_, ?_⟩
    · intro ad had i hi j hj
      cases had
      simp at hi
      simpa using (hq i hi).2.2 j hj
    · intro r hr
      obtain ⟨i, hi, rfl⟩ := List.mem_map.1 hr
      exact ⟨(hq i (List.mem_range.1 hi)).1, (hq i (List.mem_range.1 hi)).2.1⟩
    · rw [hx.1]
      have h1 := bulk_length ((List.range len).map D)
      simp only [Rows.uptoBulk, List.length_map, List.length_range] at h1 ⊢
      omega
    · intro ts ds j hsz ht' hd
      have := sized_slice hsz ht' (by rw [hd, hx.1]) ht
      simp only [List.length_map, List.length_range, reachBytes] at this ⊢
      refine Nat.le_trans (Nat.mul_le_mul_right _ ?_) this
      omega

end Go.Proofs.Ytncloielmfplpaa
