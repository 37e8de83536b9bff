/- Plain: what order.Reach answers; pairs that came in. -/
import Derived.Test.YtncloielmfplpaaNum5
import Derived.Test.YtncloielmfplpaaArgsA
namespace Go.Proofs.Ytncloielmfplpaa
open Go.RowKit
set_option linter.unusedVariables false
set_option linter.unusedSimpArgs false

/-- A row of two numbers. -/
def prOf (r : List Int) : Int × Int := (r.getD 0 0, r.getD 1 0)

theorem rdPairs {w : World} {v : Value} {rows : List (List Int)} (h : RdRows w 2 v rows) : Rd w 2 v (rows.map prOf).length (cellsOf encPrI (rows.map prOf)) := by
  obtain ⟨a, c, h1, h2, h3, h4, h5⟩ := h
  have hl : (rows.map prOf).length = rows.length := List.length_map _
  refine ⟨cellsOf_length (enc := encPrI) (sz := 2) (fun _ => rfl) _, a, c, by rw [hl]; exact h1, by rw [hl]; exact h2, h3, by rw [hl]; exact h4, fun ad had j u hu => ?_⟩
  have hj : j < (rows.map prOf).length * 2 := by
    have := (List.getElem?_eq_some_iff.1 hu).1
    rwa [cellsOf_length (enc := encPrI) (sz := 2) (fun _ => rfl)] at this
  have hi : j / 2 < (rows.map prOf).length := by omega
  obtain ⟨p0, p1⟩ := prCellsI (rows.map prOf) hi
  have hi' : j / 2 < rows.length := by rw [← hl]; exact hi
  rcases Nat.mod_two_eq_zero_or_one j with e | e
  · have e2 : j / 2 * 2 = j := by omega
    rw [e2] at p0
    rw [hu] at p0
    have := h5 ad had (j / 2) hi' 0 (by omega)
    rw [Nat.add_zero, e2] at this
    rw [this, p0]
    simp [prOf, encI]
  · have e2 : j / 2 * 2 + 1 = j := by omega
    rw [e2] at p1
    rw [hu] at p1
    have := h5 ad had (j / 2) hi' 1 (by omega)
    rw [e2] at this
    rw [this, p1]
    simp [prOf, encI]

section
variable {nodes : List Int} {uses : List (Int × Int)} {x : Int}

theorem rErr_ok (h : rErr nodes uses x = 0) : nodes.Nodup ∧ (∀ u ∈ uses, u.1 ∈ nodes ∧ u.2 ∈ nodes) ∧ x ∈ nodes := by
  unfold rErr at h
  split at h
  · rename_i h0
    unfold errOf at h0
    split at h0
    · split at h0
      · rename_i h1 h2
        split at h
        · exact ⟨h1, h2, by assumption⟩
        · cases h
      · cases h0
    · cases h0
  · contradiction

theorem getElem_idxOf {l : List Int} {y : Int} (h : y ∈ l) : l[l.idxOf y]'(List.idxOf_lt_length_of_mem h) = y := List.getElem_idxOf _

theorem mem_rOut (h : rErr nodes uses x = 0) {y : Int} : y ∈ rOut nodes uses x ↔ y ∈ nodes ∧ Reach (nxt (graphL nodes uses)) (nodes.idxOf x) (nodes.idxOf y) := by
  obtain ⟨hnd, hall, hx⟩ := rErr_ok h
  unfold rOut
  rw [if_pos h, mem_pick]
  constructor
  · rintro ⟨i, hi, hf, rfl⟩
    refine ⟨List.getElem_mem hi, ?_⟩
    rw [hnd.idxOf_getElem i hi]
    exact rb_iff.1 hf
  · rintro ⟨h1, h2⟩
    exact ⟨nodes.idxOf y, List.idxOf_lt_length_of_mem h1, rb_iff.2 h2, getElem_idxOf h1⟩

theorem mem_nxt_graph {a b : Nat} : b ∈ nxt (graphL nodes uses) a ↔ a < nodes.length ∧ ∃ u ∈ uses, nodes.idxOf u.1 = a ∧ nodes.idxOf u.2 = b := by
  unfold graphL
  rw [mem_adjP]
  unfold prs
  simp only [List.mem_map, Prod.mk.injEq]

theorem reach_self (h : rErr nodes uses x = 0) : x ∈ rOut nodes uses x := (mem_rOut h).2 ⟨(rErr_ok h).2.2, .refl _⟩

theorem reach_next (h : rErr nodes uses x = 0) {u : Int × Int} (hu : u ∈ uses) (h1 : u.1 ∈ rOut nodes uses x) : u.2 ∈ rOut nodes uses x := by
  obtain ⟨hnd, hall, hx⟩ := rErr_ok h
  refine (mem_rOut h).2 ⟨(hall u hu).2, .step ((mem_rOut h).1 h1).2 (mem_nxt_graph.2 ⟨List.idxOf_lt_length_of_mem (hall u hu).1, u, hu, rfl, rfl⟩)⟩

theorem reach_last {L : List (List Nat)} {a c : Nat} (h : Reach (nxt L) a c) : c = a ∨ ∃ b, Reach (nxt L) a b ∧ c ∈ nxt L b ∧ b ≠ c := by
  induction h with
  | refl => exact .inl rfl
  | @step b c hb hc ih =>
    by_cases e : b = c
    · subst e
      exact ih
    · exact .inr ⟨b, hb, hc, e⟩

theorem reach_from (h : rErr nodes uses x = 0) {y : Int} (hy : y ∈ rOut nodes uses x) : y = x ∨ ∃ u ∈ uses, u.2 = y ∧ u.1 ≠ y ∧ u.1 ∈ rOut nodes uses x := by
  obtain ⟨hnd, hall, hx⟩ := rErr_ok h
  obtain ⟨h1, h2⟩ := (mem_rOut h).1 hy
  rcases reach_last h2 with e | ⟨b, h3, h4, h5⟩
  · refine .inl ?_
    rw [← getElem_idxOf h1, ← getElem_idxOf hx]
    simp only [e]
  · obtain ⟨_, u, hu, e1, e2⟩ := mem_nxt_graph.1 h4
    have u2 : u.2 = y := by
      rw [← getElem_idxOf h1, ← getElem_idxOf (hall u hu).2]
      simp only [e2]
    refine .inr ⟨u, hu, u2, fun e => h5 ?_, (mem_rOut h).2 ⟨(hall u hu).1, by rw [e1]; exact h3⟩⟩
    rw [← e1, ← e2, e, u2]

theorem rOut_le : (rOut nodes uses x).length ≤ nodes.length := by
  unfold rOut
  split
  · exact pick_le _ _
  · exact Nat.zero_le _

theorem rOut_err (h : rErr nodes uses x ≠ 0) : rOut nodes uses x = [] := by
  unfold rOut
  rw [if_neg h]

end

theorem numI_one {r : List Int} {k : Int} : numI [r] k = if k ∈ r then 0 else -1 := by
  split
  · rename_i h
    have := numI_hit (Ys := [r]) (k := k) (i := 0) (by simp) h (fun t _ h => absurd h (Nat.not_lt_zero _))
    simpa using this
  · rename_i h
    exact numI_miss (fun t ht => by
      obtain rfl : t = 0 := by simpa using ht
      exact h)

/-- A list of one list. -/
theorem RdLs.one {w : World} {g : Nat} {v : Value} {r : List Int} (hg : w.heap[g]? = some (.cells #[v] 22 (0, 0))) (hv : Rd w 1 v r.length (cellsOf encI r)) : RdLs w (.slice (some ⟨g, 0, none⟩) 1 1) [r] := by
  refine ⟨[v], ⟨rfl, _, _, rfl, Nat.le_refl _, by decide, (fun h => by cases h), fun ad had j u hu => ?_⟩, rfl, fun i hi hi' => ?_⟩
  · cases had
    cases j with
    | zero =>
      simp at hu
      subst hu
      exact cell_of hg rfl
    | succ j => simp at hu
  · obtain rfl : i = 0 := by simpa using hi
    exact hv

end Go.Proofs.Ytncloielmfplpaa
