/- An argument that is a script of calls on a stack: structs of two numbers and a list of numbers. -/
import Derived.Test.YthkkpnlgjkdneaaArgsR
namespace Go.Proofs.Ythkkpnlgjkdneaa
open Go.ChangeShapes Go.WideShapes Go.ChangeAt Go.RowKit
set_option linter.unusedVariables false
set_option linter.unusedSimpArgs false

abbrev OpX := Int × Int × List Int

/-- v reads as the calls ops. -/
def RdOps (w : World) (v : Value) (ops : List OpX) : Prop :=
  ∃ a c, v = .slice a ops.length c ∧ ops.length ≤ c ∧ c ≤ maxLen ∧ (a = none → ops.length = 0 ∧ c = 0) ∧
    ∀ ad, a = some ad → ∀ i (h : i < ops.length), w.cell? (ad.add (i * 3)) = some (.int .i64 ops[i].1) ∧ w.cell? (ad.add (i * 3 + 1)) = some (.int .i64 ops[i].2.1) ∧
      ∃ xv, w.cell? (ad.add (i * 3 + 2)) = some xv ∧ Rd w 1 xv ops[i].2.2.length (cellsOf encI ops[i].2.2)

theorem RdOps.shape {w : World} {v : Value} {ops : List OpX} (h : RdOps w v ops) : ∃ a c, v = .slice a ops.length c ∧ ops.length ≤ c ∧ c ≤ maxLen ∧ (a = none → ops.length = 0 ∧ c = 0) := by
  obtain ⟨a, c, h1, h2, h3, h4, h5⟩ := h
  exact ⟨a, c, h1, h2, h3, h4⟩

theorem RdOps.later {w w' : World} {v : Value} {ops : List OpX} (h : RdOps w v ops) (hb : Below w.heap.size w w') : RdOps w' v ops := by
  obtain ⟨a, c, h1, h2, h3, h4, h5⟩ := h
  refine ⟨a, c, h1, h2, h3, h4, fun ad had i hi => ?_⟩
  obtain ⟨e1, e2, xv, e3, e4⟩ := h5 ad had i hi
  exact ⟨(hb.cell (World.block_lt_of_cell? _ _ e1)).trans e1, (hb.cell (World.block_lt_of_cell? _ _ e2)).trans e2, xv, (hb.cell (World.block_lt_of_cell? _ _ e3)).trans e3, e4.later hb⟩

/-- The cells of one call, at the addresses that a load of the whole struct uses. -/
theorem RdOps.cells {w : World} {ad : Addr} {n c : Nat} {ops : List OpX} (h : RdOps w (.slice (some ad) n c) ops) {i : Nat} (hi : i < ops.length) :
    w.cell? (ad.add (i * 3)) = some (.int .i64 ops[i].1) ∧ w.cell? ⟨(ad.add (i * 3)).block, (ad.add (i * 3)).off + 1, none⟩ = some (.int .i64 ops[i].2.1) ∧
      ∃ xv, w.cell? ⟨(ad.add (i * 3)).block, (ad.add (i * 3)).off + 2, none⟩ = some xv ∧ Rd w 1 xv ops[i].2.2.length (cellsOf encI ops[i].2.2) := by
  obtain ⟨a, c, h1, h2, h3, h4, h5⟩ := h
  cases h1
  obtain ⟨e1, e2, xv, e3, e4⟩ := h5 ad rfl i hi
  have two : ∀ j u, j ≠ 0 → w.cell? (ad.add (i * 3 + j)) = some u → w.cell? ⟨(ad.add (i * 3)).block, (ad.add (i * 3)).off + j, none⟩ = some u := fun j u h0 this => by
    rw [← Go.Deep.add_add, show (ad.add (i * 3)).add j = ⟨(ad.add (i * 3)).block, (ad.add (i * 3)).off + j, none⟩ by rw [Addr.add, if_neg h0]] at this
    exact this
  exact ⟨e1, two 1 _ (by omega) e2, xv, two 2 _ (by omega) e3, e4⟩

theorem bulk_mem {H : Type} {l : List (DataW H)} {d : DataW H} (h : d ∈ l) : Rows.uptoBulk d ≤ Rows.uptoBulkAll l := by
  induction l with
  | nil => simp at h
  | cons x r ih =>
    simp only [Rows.uptoBulkAll]
    rcases List.mem_cons.1 h with rfl | h
    · omega
    · have := ih h; omega

theorem opUnd : ∃ f0 f1 f2 : Field, Try.prog.underlying 68 = some (.struct #[f0, f1, f2]) ∧ f0.offset = 0 ∧ f0.type = 3 ∧ f1.offset = 1 ∧ f1.type = 3 ∧ f2.offset = 2 ∧ f2.type = 22 := ⟨_, _, _, Try.underlying68, rfl, rfl, rfl, rfl, rfl, rfl⟩

theorem opCells : Try.prog.cellsOf 68 = 3 := by kernel_rfl
theorem intCells : Try.prog.cellsOf 3 = 1 := by kernel_rfl
theorem rowCells : Try.prog.cellsOf 22 = 1 := by kernel_rfl

set_option maxRecDepth 100000 in
theorem open_ops_arg {H : Type} {enc : TypeId × Value → H} {W : World} {v : Value} {d : DataW H} {ps : List MemPlace} {base : Nat}
    (hok : Value.okWide Try.prog W .any base 39 v) (h : DataW.Trod enc Try.prog W 0 (fun _ => true) true 39 v d ps) :
    ∃ ops : List OpX, RdOps W v ops ∧ (∀ o ∈ ops, (∀ x ∈ o.2.2, InR x) ∧ o.2.2.length ≤ Rows.uptoBulk d) ∧ ops.length ≤ Rows.uptoBulk d := by
  obtain ⟨a0, len, cap, rfl⟩ := okWide_slice Try.underlying39 hok
  obtain ⟨fuel, hf⟩ := h
  rcases Go.Deep.open_slice Try.underlying39 hf with ⟨hcs, hx⟩ | ⟨a, len', cap', m, n, D, Pl, hcs, _, hl, hm, hmm, hx, hcell⟩
  · simp [Value.cells] at hcs
    obtain ⟨rfl, rfl, rfl⟩ := hcs
    exact ⟨[], ⟨none, 0, rfl, Nat.le_refl _, Nat.zero_le _, fun _ => ⟨rfl, rfl⟩, fun _ h => by cases h⟩, by simp, Nat.zero_le _⟩
  · simp [Value.cells] at hcs
    obtain ⟨rfl, rfl, rfl⟩ := hcs
    simp only [Prod.mk.injEq] at hx
    have hlm : len ≤ m := by rw [hmm]; split <;> omega
    obtain ⟨f0, f1, f2, hu, o0, t0, o1, t1, o2, t2⟩ := opUnd
    have each : ∀ i, i < len → ∃ o : OpX, (∀ x ∈ o.2.2, InR x) ∧ o.2.2.length ≤ Rows.uptoBulk (D i) ∧ W.cell? (a.add (i * 3)) = some (.int .i64 o.1) ∧ W.cell? (a.add (i * 3 + 1)) = some (.int .i64 o.2.1) ∧
        ∃ xv, W.cell? (a.add (i * 3 + 2)) = some xv ∧ Rd W 1 xv o.2.2.length (cellsOf encI o.2.2) := by
      intro i hi
      obtain ⟨cs', h1, h2⟩ := hcell i (by omega)
      rw [opCells] at h1
      obtain ⟨_, hlen, hcl⟩ := World.cells?_some h1
      obtain ⟨xs, k, hk, hxy, _, hxl, hfl⟩ := DataW.trod_struct hu h2
      simp only [Prod.mk.injEq] at hxy
      have q0 := hfl 0 f0 rfl
      have q1 := hfl 1 f1 rfl
      have q2 := hfl 2 f2 rfl
      simp only [List.size_toArray, List.length_cons, List.length_nil] at hxl
      rw [o0, t0, intCells, List.getElem?_eq_getElem (by omega)] at q0
      rw [o1, t1, intCells, List.getElem?_eq_getElem (by omega)] at q1
      rw [o2, t2, rowCells, List.getElem?_eq_getElem (by omega)] at q2
      obtain ⟨x0, e0, _, _⟩ := DataW.trod_int Try.underlying3 q0
      obtain ⟨x1, e1, _, _⟩ := DataW.trod_int Try.underlying3 q1
      have cellAt : ∀ (j : Nat) (hj : j < 3) (u : Value), (cs'.drop j).take 1 = [u] → W.cell? (a.add (i * 3 + j)) = some u := by
        intro j hj u hu
        have h3 := hcl j hj
        rw [Go.Deep.add_add] at h3
        have h4 := congrArg (·[0]?) hu
        have h5 : cs'[j]? = some u := by simpa using h4
        rw [List.getElem?_eq_getElem (by omega)] at h5
        rw [h3, List.getElem?_eq_getElem (by omega), h5]
      have hmem : (xs[2]).1 ∈ xs.map (·.1) := List.mem_map.2 ⟨_, List.getElem_mem _, rfl⟩
      have hD : Rows.uptoBulk (D i) = Rows.uptoBulkAll (xs.map (·.1)) + 1 := by rw [hxy.1]; simp only [Rows.uptoBulk]
      rcases open_ints Try.underlying22 Try.underlying3 intCells q2 with ⟨hcs, hx2⟩ | ⟨a2, len2, cap2, zs, hcs, _, hl2, hm2, hz2, hx2, hcell2, hwz2⟩
      · exact ⟨(x0, x1, []), by simp, by simp, cellAt 0 (by omega) _ e0, cellAt 1 (by omega) _ e1, _, cellAt 2 (by omega) _ hcs, by simp [cellsOf], none, 0, rfl, Nat.le_refl _, Nat.zero_le _, fun _ => ⟨rfl, rfl⟩, fun _ h => by cases h⟩
      · simp only [if_true] at hz2
        have hlen2 : (zs.take len2).length = len2 := by rw [List.length_take]; omega
        have hb2 : (zs.take len2).length ≤ Rows.uptoBulk (D i) := by
          have h6 := bulk_mem hmem
          have h7 : Rows.uptoBulk (xs[2]).1 = Rows.uptoBulkAll (lits (H := H) .i64 (zs.take len2)) + Rows.uptoBulkAll (lits (H := H) .i64 (zs.drop len2)) + 1 := by rw [hx2]; simp only [Rows.uptoBulk]
          have h8 := bulk_length (H := H) (lits .i64 (zs.take len2))
          have h9 : (lits (H := H) .i64 (zs.take len2)).length = (zs.take len2).length := by simp [lits]
          omega
        refine ⟨(x0, x1, zs.take len2), fun x hx => inR_of_wf (hwz2 x (List.mem_of_mem_take hx)), hb2, cellAt 0 (by omega) _ e0, cellAt 1 (by omega) _ e1, _, cellAt 2 (by omega) _ hcs, ?_⟩
        refine ⟨by rw [cellsOf_encI]; simp, some a2, cap2, by rw [hlen2], by rw [hlen2]; exact hl2, hm2, (fun h => by cases h), ?_⟩
        intro ad had j u hu
        cases had
        rw [cellsOf_encI, List.getElem?_map, Option.map_eq_some_iff] at hu
        obtain ⟨z, hz1, rfl⟩ := hu
        rw [List.getElem?_take] at hz1
        split at hz1
        · have hj := (List.getElem?_eq_some_iff.1 hz1).1
          rw [hcell2 j hj]
          simp [List.getD, hz1]
        · cases hz1
    obtain ⟨q, hq⟩ := Go.Deep.choose_lt each
    have hd : Rows.uptoBulk d = Rows.uptoBulkAll ((List.range len).map D) + Rows.uptoBulkAll ((List.range (m - len)).map fun j => D (len + j)) + 1 := by
      rw [hx.1]; simp only [Rows.uptoBulk]
    refine ⟨(List.range len).map q, ⟨some a, cap, by simp, by simpa using hl, hm, (fun h => by cases h), ?_⟩, ?_, ?_⟩
    · intro ad had i hi
      cases had
      simp at hi
      obtain ⟨h1, h2, h3, h4, xv, h5, h6⟩ := hq i hi
      simp only [List.getElem_map, List.getElem_range]
      exact ⟨h3, h4, xv, h5, h6⟩
    · intro o ho
      obtain ⟨i, hi, rfl⟩ := List.mem_map.1 ho
      have hi' := List.mem_range.1 hi
      obtain ⟨h1, h2, _⟩ := hq i hi'
      refine ⟨h1, ?_⟩
      have := bulk_mem (l := (List.range len).map D) (List.mem_map.2 ⟨i, hi, rfl⟩)
      omega
    · have h1 := bulk_length ((List.range len).map D)
      simp only [List.length_map, List.length_range] at h1 ⊢
      omega

end Go.Proofs.Ythkkpnlgjkdneaa
