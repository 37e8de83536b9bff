/- What a stack in memory holds (plain; over whatever program): the limit and the things; a slice's tail, its clearing. -/
import Derived.Test.YtncloielmfplpaaIdxIs
namespace Go.Proofs.Ytncloielmfplpaa
open Go.RowKit
set_option linter.unusedVariables false
set_option linter.unusedSimpArgs false

/-- 's[k:]'. -/
def tailV (a : Option Addr) (n c k sz : Nat) : Value := .slice (if c = k then a else a.map (·.add (k * sz))) (n - k) (c - k)

theorem Own.tailV {w : World} {e : TypeId} {sz : Nat} {a : Option Addr} {n c : Nat} {xs : List Value} (h : Own w e sz (.slice a n c) n xs) {k : Nat} (hk : k ≤ n) : Own w e sz (tailV a n c k sz) (n - k) (xs.drop (k * sz)) := h.tail hk

section
variable {P : Program} {T e : TypeId} {z : Value} {sz bytes : Nat} (S : SlT P T e z sz bytes)
include S

theorem SlT.size (w : World) : (sizeOf e).run P w = .ok sz w := by
  obtain ⟨i, hi, hz, hs, hb⟩ := S.info
  simp [sizeOf, typeInfo, hi, hs]

theorem SlT.elem : P.underlying T = some (.slice (P.elem T)) := by
  have h := S.und
  have : P.elem T = e := by simp [Program.elem, h]
  rw [this, h]

theorem run_slice_tail (w : World) (a : Option Addr) {n c k : Nat} (hk : k ≤ n) (hc : n ≤ c) : (Instr.sliceAt T (.slice a n c) (some (.int .i64 k)) none none).run P w = .ok (tailV a n c k sz) w := by
  have he : P.elem T = e := by simp [Program.elem, S.und]
  rw [run_sliceAt_slice w T _ _ _ _ S.elem, run_slice_l w T a n c S.elem .i64 k (by omega) (by omega), he, S.size]
  simp [Result.andThen, sliced, tailV]

theorem run_slice_head (w : World) (a : Option Addr) {n c k : Nat} (hk : k ≤ c) : (Instr.sliceAt T (.slice a n c) none (some (.int .i64 k)) none).run P w = .ok (.slice a k c) w := by
  have he : P.elem T = e := by simp [Program.elem, S.und]
  rw [run_sliceAt_slice w T _ _ _ _ S.elem, run_slice_h w T a n c S.elem .i64 k (by omega) (by omega), he, S.size]
  cases a <;> simp [Result.andThen, sliced, Addr.add]

theorem run_clear_tail (ty : TypeId) {w : World} {a : Option Addr} {n c k : Nat} {xs : List Value} (h : Own w e sz (.slice a n c) n xs) (hk : k ≤ n) (h1 : ∀ u ∈ z.cells, u.oneCell' = true) :
    ∃ w', (Builtin.clear_ #[T] ty #[tailV a n c k sz]).run P w = .ok (.tuple #[]) w' ∧ Own w' e sz (.slice a k c) k (xs.take (k * sz)) ∧ Kept (fun b => (Value.slice a n c).ownBlock = some b) w w' := by
  obtain ⟨i, hi, hz, hs, hb⟩ := S.info
  have ht := S.und
  have hsub := h.sub hk
  by_cases hkn : k = n
  · subst hkn
    refine ⟨w, ?_, hsub, Kept.refl _ _⟩
    unfold tailV
    rw [Nat.sub_self]
    by_cases hck : c = k
    · subst hck
      cases a <;> simp [Builtin.clear_, run_underlying ht]
    · cases a <;> simp [Builtin.clear_, run_underlying ht, hck]
  · rcases h.2 with ⟨hv, rfl⟩ | ⟨g, off, cap, cur, hv, hg, a1, a2, a3, a4⟩
    · omega
    · simp only [Value.slice.injEq] at hv
      obtain ⟨rfl, _, rfl⟩ := hv
      have hck : ¬ c = k := by omega
      obtain ⟨m, hm⟩ : ∃ m, n - k = m + 1 := ⟨n - k - 1, by omega⟩
      have hkn1 : k * sz + (n - k) * sz = n * sz := by rw [← Nat.add_mul]; congr 1; omega
      have hnc : n * sz ≤ c * sz := Nat.mul_le_mul_right _ a1
      have hl : (Builtin.zeroCells z.cells (m + 1)).toList.length = (n - k) * sz := by
        rw [Array.length_toList, size_zeroCells, S.zs, hm]
      have h1' : ∀ v ∈ (Builtin.zeroCells z.cells (m + 1)).toList, v.oneCell' = true := by
        intro v hv'
        simp only [Builtin.zeroCells, Array.mem_toList_iff, Array.mem_map] at hv'
        obtain ⟨i', _, rfl⟩ := hv'
        have hp : 0 < z.cells.size := by rw [S.zs]; exact S.pos
        rw [Array.getElem!_eq_getD, Array.getD_eq_getD_getElem?, Array.getElem?_eq_getElem (Nat.mod_lt _ hp)]
        exact h1 _ (Array.getElem_mem _)
      have hst := run_storeCells_at P g (off + k * sz) e _ 0 cur w hg (by rw [hl]; omega) h1'
      simp only [Nat.add_zero] at hst
      refine ⟨w.setRow g (cur.toList.take (off + k * sz) ++ (Builtin.zeroCells z.cells (m + 1)).toList ++ cur.toList.drop (off + k * sz + (Builtin.zeroCells z.cells (m + 1)).toList.length)).toArray, ?_, ⟨hsub.1, .inr ⟨g, off, c, _, rfl, setRow_heap w g cur _ e _ hg, by omega, a2, ?_, ?_⟩⟩, ⟨rfl, rfl, rfl, by simp, fun j _ hj => setRow_other w g j _ (fun e => hj (by simp [Value.ownBlock, e]))⟩⟩
      · unfold tailV
        rw [if_neg hck, hm]
        simp [Builtin.clear_, run_underlying ht, zeroValue, typeInfo, hi, hz, Addr.add_lit, hst]
      · simp only [List.size_toArray, List.length_append, List.length_take, List.length_drop, Array.length_toList]
        rw [Array.length_toList] at hl
        rw [hl]
        omega
      · have e1 : cur.toList.take (off + k * sz) = cur.toList.take off ++ xs.take (k * sz) := by
          rw [← a4, List.take_take, Nat.min_eq_left (by omega), List.take_add]
        simp only [e1]
        have e2 : (cur.toList.take off).length = off := by
          rw [List.length_take, Array.length_toList]; omega
        rw [List.append_assoc, List.append_assoc, List.drop_append_of_le_length (by omega), List.drop_of_length_le (by omega), List.nil_append]
        exact List.take_left' hsub.1
end

section
variable {P : Program} {w : World} {ops : Array Oper} {rest : List Oper} {o : Oper} {a : Act} {Q : Exit → Act → World → Prop}

theorem wpList_slice_run (hg : o.guard = none) (x : Operand) (lo hi mx : Option Operand) {t : TypeId} (hop : o.op = Op.slice t x lo hi mx) {xv v : Value} {lov hiv mxv : Option Value} (hx : a.eval x = xv) (hlo : lo.map a.eval = lov) (hhi : hi.map a.eval = hiv) (hmx : mx.map a.eval = mxv)
    (hrun : (Instr.sliceAt t xv lov hiv mxv).run P w = .ok v w) (hK : wpList P ops Q rest (a.put o.dst v) w) : wpList P ops Q (o :: rest) a w := by
  refine wpList_plain hg fun K' hK' => ?_
  unfold Oper.wp
  simp [execOp, hop, hx, hlo, hhi, hmx, hrun, Result.andThen]
  exact hK' _ _ hK

theorem wpList_clear_run (hg : o.guard = none) (x : Operand) {T : TypeId} (hop : o.op = .call { callee := .builtin .clear, args := #[x], argTypes := #[T] }) {xv : Value} {w' : World} (hx : a.eval x = xv)
    (hrun : (Builtin.clear_ #[T] o.type #[xv]).run P w = .ok (.tuple #[]) w') (hK : wpList P ops Q rest (a.put o.dst (.tuple #[])) w') : wpList P ops Q (o :: rest) a w := by
  refine wpList_plain hg fun K' hK' => ?_
  unfold Oper.wp execOp
  simp only [hop, resolve, invoke, builtin, Sem.run_bind, Sem.run_pure, Result.andThen_ok, List.map_toArray, List.map_cons, List.map_nil, hx, hrun]
  exact hK' _ _ hK
end

/-- p points at a stack of the limit and the things xs; F: its blocks. T: the struct's type, e the things' type, sz their cells. -/
def StkIs {α : Type} (T e : TypeId) (sz : Nat) (enc : α → Value) (w : World) (p : Value) (F : Nat → Prop) (limit : Nat) (xs : List α) : Prop :=
  ∃ sb v, p = .pointer (some ⟨sb, 0, none⟩) ∧ w.heap[sb]? = some (.cells #[.int .i64 limit, v] T (0, 0)) ∧ Own w e sz v xs.length (cellsOf enc xs) ∧ v.ownBlock ≠ some sb ∧ (limit ≤ 1048576 ∧ xs.length ≤ limit) ∧ ∀ b, F b ↔ (b = sb ∨ v.ownBlock = some b)

section
variable {α : Type} {T e : TypeId} {sz : Nat} {enc : α → Value} {w w' : World} {p : Value} {F : Nat → Prop} {limit : Nat} {xs : List α}

theorem StkIs.lt (h : StkIs T e sz enc w p F limit xs) {b : Nat} (hb : F b) : b < w.heap.size := by
  obtain ⟨sb, v, rfl, h1, h2, h3, _, hF⟩ := h
  rcases (hF b).1 hb with rfl | hv
  · exact heap_lt h1
  · exact h2.lt hv

theorem StkIs.frame {G : Nat → Prop} (h : StkIs T e sz enc w p F limit xs) (hk : Kept G w w') (hd : ∀ b, F b → ¬ G b) : StkIs T e sz enc w' p F limit xs := by
  obtain ⟨sb, v, rfl, h1, h2, h3, h4, hF⟩ := h
  exact ⟨sb, v, rfl, (hk.block sb (heap_lt h1) (hd _ ((hF _).2 (.inl rfl)))).trans h1, h2.frame hk (fun b hb => hd _ ((hF _).2 (.inr hb))), h3, h4, hF⟩

theorem StkIs.made (w : World) (limit : Nat) (hl : limit ≤ 1048576) : StkIs T e sz enc (w.alloc (.cells #[.int .i64 limit, .slice none 0 0] T)) (.pointer (some ⟨w.heap.size, 0, none⟩)) (fun b => b = w.heap.size) limit [] :=
  ⟨w.heap.size, .slice none 0 0, rfl, (by show (w.heap.push _)[w.heap.size]? = _; simp), Own.nil _ _ _, by simp [Value.ownBlock], ⟨hl, Nat.zero_le _⟩, fun b => by simp [Value.ownBlock]⟩

/-- What Push leaves. -/
theorem StkIs.pushed {w2 : World} {sb : Nat} {v v2 : Value} {ys : List α} (h1 : w.heap[sb]? = some (.cells #[.int .i64 limit, v] T (0, 0))) (hv : v.ownBlock ≠ some sb) (hl : limit ≤ 1048576 ∧ xs.length + ys.length ≤ limit)
    (hk2 : Kept (fun b => v.ownBlock = some b) w w2) (hown2 : Own w2 e sz v2 (xs.length + ys.length) (cellsOf enc xs ++ cellsOf enc ys)) (hb2 : ∀ b, v2.ownBlock = some b → v.ownBlock = some b ∨ w.heap.size ≤ b)
    (e2 : w2.heap[sb]? = some (.cells #[.int .i64 limit, v] T (0, 0))) :
    ∃ F', StkIs T e sz enc (w2.setCell ⟨sb, 1, none⟩ v2) (.pointer (some ⟨sb, 0, none⟩)) F' limit (xs ++ ys) ∧ Kept (fun b => b = sb ∨ v.ownBlock = some b) w (w2.setCell ⟨sb, 1, none⟩ v2) ∧ ∀ b, F' b → (b = sb ∨ v.ownBlock = some b) ∨ w.heap.size ≤ b := by
  have hn2 : v2.ownBlock ≠ some sb := fun h => by
    rcases hb2 _ h with h | h
    · exact hv h
    · have := heap_lt h1; omega
  refine ⟨fun b => b = sb ∨ v2.ownBlock = some b, ⟨sb, v2, rfl, ?_, ?_, hn2, ⟨hl.1, by rw [List.length_append]; exact hl.2⟩, fun _ => Iff.rfl⟩, ?_, ?_⟩
  · have := heap_set (o := 1) e2 v2
    simpa using this
  · rw [List.length_append, cellsOf_append]
    exact hown2.setCell hn2 _
  · exact Kept.setCell ((Kept.refl _ w).trans' hk2 (fun i _ h => .inr h)) (fun _ => .inl rfl) _
  · rintro b (h | h)
    · exact .inl (.inl h)
    · rcases hb2 b h with h | h
      · exact .inl (.inr h)
      · exact .inr h

/-- What Pop leaves. -/
theorem StkIs.popped {w2 : World} {sb k n c : Nat} {a : Option Addr} (h1 : w.heap[sb]? = some (.cells #[.int .i64 limit, .slice a n c] T (0, 0))) (hv : (Value.slice a n c).ownBlock ≠ some sb) (hl : limit ≤ 1048576 ∧ xs.length ≤ limit) (hk : k ≤ xs.length)
    (hk2 : Kept (fun b => (Value.slice a n c).ownBlock = some b) w w2) (hown2 : Own w2 e sz (.slice a k c) k (cellsOf enc (xs.take k))) :
    StkIs T e sz enc (w2.setCell ⟨sb, 1, none⟩ (.slice a k c)) (.pointer (some ⟨sb, 0, none⟩)) (fun b => b = sb ∨ (Value.slice a n c).ownBlock = some b) limit (xs.take k) ∧ Kept (fun b => b = sb ∨ (Value.slice a n c).ownBlock = some b) w (w2.setCell ⟨sb, 1, none⟩ (.slice a k c)) := by
  have e2 := (hk2.block sb (heap_lt h1) hv).trans h1
  have hob : (Value.slice a k c).ownBlock = (Value.slice a n c).ownBlock := by cases a <;> rfl
  refine ⟨⟨sb, .slice a k c, rfl, ?_, ?_, by rw [hob]; exact hv, ⟨hl.1, by rw [List.length_take]; omega⟩, fun b => by rw [hob]⟩, ?_⟩
  · have := heap_set (o := 1) e2 (.slice a k c)
    simpa using this
  · rw [List.length_take, Nat.min_eq_left hk]
    exact hown2.setCell (by rw [hob]; exact hv) _
  · exact Kept.setCell ((Kept.refl _ w).trans' hk2 (fun i _ h => .inr h)) (fun _ => .inl rfl) _

end

theorem cellsOf_length {α : Type} {enc : α → Value} {sz : Nat} (hs : ∀ a, (enc a).cells.size = sz) (ks : List α) : (cellsOf enc ks).length = ks.length * sz := by
  induction ks with
  | nil => simp [cellsOf]
  | cons k ks ih =>
    show ((enc k).cells.toList ++ cellsOf enc ks).length = _
    rw [List.length_append, ih, Array.length_toList, hs, List.length_cons, Nat.add_mul]
    omega

theorem cellsOf_take {α : Type} {enc : α → Value} {sz : Nat} (hs : ∀ a, (enc a).cells.size = sz) (ks : List α) {k : Nat} (hk : k ≤ ks.length) : (cellsOf enc ks).take (k * sz) = cellsOf enc (ks.take k) := by
  have h := cellsOf_append enc (ks.take k) (ks.drop k)
  rw [List.take_append_drop] at h
  have hl := cellsOf_length hs (ks.take k)
  rw [List.length_take, Nat.min_eq_left hk] at hl
  rw [h, ← hl, List.take_left]

theorem cellsOf_drop {α : Type} {enc : α → Value} {sz : Nat} (hs : ∀ a, (enc a).cells.size = sz) (ks : List α) {k : Nat} (hk : k ≤ ks.length) : (cellsOf enc ks).drop (k * sz) = cellsOf enc (ks.drop k) := by
  have h := cellsOf_append enc (ks.take k) (ks.drop k)
  rw [List.take_append_drop] at h
  have hl := cellsOf_length hs (ks.take k)
  rw [List.length_take, Nat.min_eq_left hk] at hl
  rw [h, ← hl, List.drop_left]

end Go.Proofs.Ytncloielmfplpaa
