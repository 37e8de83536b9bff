/- An argument that is a slice of structs, or of arrays, of numbers, opened. -/
import Derived.Test.YtllcklddfcclfaaArgsI
import Derived.Deep.SlicePairs
namespace Go.Proofs.Ytllcklddfcclfaa
open Go.ChangeShapes Go.WideShapes Go.ChangeAt Go.RowKit
set_option linter.unusedVariables false
set_option linter.unusedSimpArgs false

/-- v reads as the rows xs, each of m numbers. -/
def RdRows (w : World) (m : Nat) (v : Value) (xs : List (List Int)) : Prop :=
  ∃ a c, v = .slice a xs.length c ∧ xs.length ≤ c ∧ c ≤ maxLen ∧ (a = none → xs.length = 0 ∧ c = 0) ∧
    ∀ ad, a = some ad → ∀ i (h : i < xs.length), ∀ j, j < m → w.cell? (ad.add (i * m + j)) = some (.int .i64 (xs[i].getD j 0))

theorem RdRows.later {w w' : World} {m : Nat} {v : Value} {xs : List (List Int)} (h : RdRows w m v xs) (hb : Below w.heap.size w w') : RdRows w' m v xs := by
  obtain ⟨a, c, h1, h2, h3, h4, h5⟩ := h
  refine ⟨a, c, h1, h2, h3, h4, fun ad had i hi j hj => ?_⟩
  have := h5 ad had i hi j hj
  exact (hb.cell (World.block_lt_of_cell? _ _ this)).trans this

theorem RdRows.shape {w : World} {m : Nat} {v : Value} {xs : List (List Int)} (h : RdRows w m v xs) : ∃ a c, v = .slice a xs.length c ∧ xs.length ≤ c ∧ c ≤ maxLen ∧ (a = none → xs.length = 0 ∧ c = 0) := by
  obtain ⟨a, c, h1, h2, h3, h4, h5⟩ := h
  exact ⟨a, c, h1, h2, h3, h4⟩

theorem RdRows.cell {w : World} {m : Nat} {ad : Addr} {n c : Nat} {xs : List (List Int)} (h : RdRows w m (.slice (some ad) n c) xs) {i : Nat} (hi : i < xs.length) {j : Nat} (hj : j < m) : w.cell? (ad.add (i * m + j)) = some (.int .i64 (xs[i].getD j 0)) := by
  obtain ⟨a, c, h1, h2, h3, h4, h5⟩ := h
  cases h1
  exact h5 ad rfl i hi j hj

/-- The same at the address that a load of the whole row uses. -/
theorem RdRows.cell' {w : World} {m : Nat} {ad : Addr} {n c : Nat} {xs : List (List Int)} (h : RdRows w m (.slice (some ad) n c) xs) {i : Nat} (hi : i < xs.length) {j : Nat} (hj : j < m) (h0 : j ≠ 0) :
    w.cell? ⟨(ad.add (i * m)).block, (ad.add (i * m)).off + j, none⟩ = some (.int .i64 (xs[i].getD j 0)) := by
  have := h.cell hi hj
  rw [← Go.Deep.add_add, show (ad.add (i * m)).add j = ⟨(ad.add (i * m)).block, (ad.add (i * m)).off + j, none⟩ by rw [Addr.add, if_neg h0]] at this
  exact this

/-- Fields that are numbers, one behind the other. -/
def IntFields (P : Program) (fs : Array Field) : Prop := ∀ (j : Nat) (f : Field), fs[j]? = some f → f.offset = j ∧ P.underlying f.type = some (.int .i64) ∧ P.cellsOf f.type = 1

theorem bulk_one {H : Type} (d : DataW H) : 1 ≤ Rows.uptoBulk d := by
  cases d with
  | lit l => cases l <;> simp [Rows.uptoBulk]
  | nil => simp [Rows.uptoBulk]
  | ptr d => simp [Rows.uptoBulk]
  | slice elems spare => simp [Rows.uptoBulk]
  | agg parts => simp [Rows.uptoBulk]
  | iface t d => simp [Rows.uptoBulk]
  | map entries => simp [Rows.uptoBulk]
  | held h => simp [Rows.uptoBulk]

theorem bulk_length {H : Type} (l : List (DataW H)) : l.length ≤ Rows.uptoBulkAll l := by
  induction l with
  | nil => simp [Rows.uptoBulkAll]
  | cons x r ih => have := bulk_one x; simp only [Rows.uptoBulkAll, List.length_cons]; omega

set_option maxRecDepth 100000 in
theorem open_rows_arg {H : Type} {enc : TypeId × Value → H} {W : World} {v : Value} {d : DataW H} {ps : List MemPlace} {base : Nat} {T e : TypeId} {fs : Array Field} (ht : Try.prog.underlying T = some (.slice e)) (he : Try.prog.underlying e = some (.struct fs)) (hc : Try.prog.cellsOf e = fs.size) (hfs : IntFields Try.prog fs)
    (hok : Value.okWide Try.prog W .any base T v) (h : DataW.Trod enc Try.prog W 0 (fun _ => true) true T v d ps) :
    ∃ xs : List (List Int), RdRows W fs.size v xs ∧ (∀ r ∈ xs, r.length = fs.size ∧ ∀ x ∈ r, InR x) ∧ xs.length ≤ Rows.uptoBulk d ∧
      (∀ {ts : List TypeId} {ds : List (DataW H)} {j : Nat}, (DataW.weightsEach Try.prog ts ds).all (· ≤ reachBytes) = true → ts[j]? = some T → ds[j]? = some d → xs.length * Try.prog.bytesOf e ≤ 140737488351232) := by
  obtain ⟨a0, len, cap, rfl⟩ := okWide_slice ht hok
  obtain ⟨fuel, hf⟩ := h
  rcases Go.Deep.open_slice ht hf with ⟨hcs, hx⟩ | ⟨a, len', cap', m, n, D, Pl, hcs, _, hl, hm, hmm, hx, hcell⟩
  · simp [Value.cells] at hcs
    obtain ⟨rfl, rfl, rfl⟩ := hcs
    exact ⟨[], ⟨none, 0, rfl, Nat.le_refl _, Nat.zero_le _, fun _ => ⟨rfl, rfl⟩, fun _ h => by cases h⟩, by simp, Nat.zero_le _, fun _ _ _ => by simp⟩
  · simp [Value.cells] at hcs
    obtain ⟨rfl, rfl, rfl⟩ := hcs
    simp only [Prod.mk.injEq] at hx
    have hlm : len ≤ m := by rw [hmm]; split <;> omega
    have each : ∀ i, i < len → ∃ r : List Int, r.length = fs.size ∧ (∀ x ∈ r, InR x) ∧ ∀ j, j < fs.size → W.cell? (a.add (i * fs.size + j)) = some (.int .i64 (r.getD j 0)) := by
      intro i hi
      obtain ⟨cs', h1, h2⟩ := hcell i (by omega)
      rw [hc] at h1
      obtain ⟨_, hlen, hcl⟩ := World.cells?_some h1
      obtain ⟨xs, k, hk, hxy, _, hxl, hfl⟩ := DataW.trod_struct he h2
      have one : ∀ j, j < fs.size → ∃ x : Int, cs'[j]? = some (.int .i64 x) ∧ InR x := by
        intro j hj
        have hf1 : fs[j]? = some fs[j] := by simp [hj]
        obtain ⟨h3, h4, h5⟩ := hfs j _ hf1
        have h6 := hfl j _ hf1
        rw [h3, h5, List.getElem?_eq_getElem (by omega)] at h6
        obtain ⟨x, e0, _, wa⟩ := DataW.trod_int h4 h6
        refine ⟨x, ?_, inR_of_wf wa⟩
        have := congrArg (·[0]?) e0
        simpa using this
      obtain ⟨q, hq⟩ := Go.Deep.choose_lt one
      refine ⟨(List.range fs.size).map q, by simp, ?_, ?_⟩
      · intro x hx
        obtain ⟨j, hj, rfl⟩ := List.mem_map.1 hx
        exact (hq j (List.mem_range.1 hj)).2
      · intro j hj
        have h3 := hcl j hj
        have h4 := (hq j hj).1
        rw [List.getElem?_eq_some_iff] at h4
        obtain ⟨h5, h6⟩ := h4
        rw [Go.Deep.add_add, List.getElem?_eq_getElem h5, h6] at h3
        simpa [List.getD, hj] using h3
    obtain ⟨q, hq⟩ := Go.Deep.choose_lt each
    refine ⟨(List.range len).map q, ⟨some a, cap, by simp, by simpa using hl, hm, (fun h => by cases h), ?_⟩, ?_, ?_, ?_⟩
    · intro ad had i hi j hj
      cases had
      simp at hi
      simpa using (hq i hi).2.2 j hj
    · intro r hr
      obtain ⟨i, hi, rfl⟩ := List.mem_map.1 hr
      exact ⟨(hq i (List.mem_range.1 hi)).1, (hq i (List.mem_range.1 hi)).2.1⟩
    · rw [hx.1]
      have h1 := bulk_length ((List.range len).map D)
      simp only [Rows.uptoBulk, List.length_map, List.length_range] at h1 ⊢
      omega
    · intro ts ds j hsz ht' hd
      have := sized_slice hsz ht' (by rw [hd, hx.1]) ht
      simp only [List.length_map, List.length_range, reachBytes] at this ⊢
      refine Nat.le_trans (Nat.mul_le_mul_right _ ?_) this
      omega

end Go.Proofs.Ytllcklddfcclfaa
