/- The scope's Find at texts and tokens (a result of four cells). -/
import Derived.Test.YtllcklddfcclfaaBackST
import Derived.Test.YtllcklddfcclfaaScopeBST
import Derived.Maps.OwnIn
namespace Go.Proofs.Ytllcklddfcclfaa
open Go.RowKit Go.Shelf
set_option linter.unusedVariables false
set_option linter.unusedSimpArgs false

attribute [local go_sem] Oper.semAt_some

set_option maxHeartbeats 1000000 in
theorem backCallST (F : Fence) (n : Nat) (h47 : F.fn 49) (hro : F.round = none) (a : Option Addr) (len cap : Nat) (w : World) :
    CallsIn F n Try.prog 49 #[.slice a len cap] w fun e w' => e = .returned (.func (.func 54) #[] #[.pointer (some ⟨w.heap.size, 0, none⟩)]) ∧ w' = w.alloc (.cells #[.slice a len cap] 81) := by
  refine callsIn_of_wp Try.func49 rfl h47 ?_ hro
  simp only [Try.ntmps49, List.size_toArray, List.length_cons, List.length_nil, Nat.reduceAdd, Nat.reduceSub, Array.replicate_succ, Array.replicate_zero, List.push_toArray, List.append_toArray, List.nil_append, List.cons_append]
  gi_wp2
  go_ret
  exact ⟨rfl, rfl⟩

theorem backStopsST (F : Fence) (n : Nat) (h53 : F.fn 54) (hro : F.round = none) (hn : 1 ≤ n) (Bs n₀ b off len cap : Nat) (mv kv : Fin len → Value) (w : World) (hBs : Bs < n₀) (hb : b < n₀) (hn₀ : n₀ ≤ w.heap.size) (hl : len ≤ 9223372036854775807)
    (hcB : w.cell? ⟨Bs, 0, none⟩ = some (.slice (some ⟨b, off, none⟩) len cap)) (hc0 : ∀ j : Fin len, w.cell? ⟨b, off + j.1 * 2, none⟩ = some (mv j)) (hc1 : ∀ j : Fin len, w.cell? ⟨b, off + j.1 * 2 + 1, none⟩ = some (kv j)) :
    SeqStopsK F n Try.prog 54 #[.pointer (some ⟨Bs, 0, none⟩)] (fun x : Fin len => #[Value.int .i64 (x.1 : Int), Value.agg #[mv x, kv x]]) (Below n₀) (fun ys => ys = backST len len)
      (fun pre => ∃ k, k ≤ len ∧ pre = backST len k) len w := fun l J Jx W hW _ _ hY h0 =>
  backRunST F n h53 hro hn l Bs n₀ b off len cap hb hBs hl mv kv J Jx hY W ((hW.cell (p := ⟨Bs, 0, none⟩) (by show Bs < _; omega)).trans hcB) (fun j => (hW.cell (p := ⟨b, off + j.1 * 2, none⟩) (by show b < _; omega)).trans (hc0 j)) (fun j => (hW.cell (p := ⟨b, off + j.1 * 2 + 1, none⟩) (by show b < _; omega)).trans (hc1 j)) h0

theorem backST_mem {len t : Nat} (h : t ≤ len) {i : Fin len} : i ∈ backST len t ↔ len ≤ i.1 + t := by
  induction t with
  | zero =>
    have := i.2
    simp [backST]
  | succ t ih =>
    rw [backST_succ (by omega), List.mem_append, ih (by omega), List.mem_singleton, Fin.ext_iff]
    show _ ∨ i.1 = len - 1 - t ↔ _
    omega

theorem frameCells {α β : Type} (fr : List (Fr α β)) {i : Nat} (hi : i < fr.length) : (fr.flatMap Fr.cells)[i * 2]? = some (.map (some fr[i].mb)) ∧ (fr.flatMap Fr.cells)[i * 2 + 1]? = some fr[i].kv := by
  induction fr generalizing i with
  | nil => simp at hi
  | cons f fs ih =>
    have hl : (Fr.cells f).length = 2 := rfl
    rw [List.flatMap_cons]
    cases i with
    | zero => exact ⟨by simp [Fr.cells], by simp [Fr.cells]⟩
    | succ i =>
      have := ih (i := i) (by simpa using hi)
      rw [List.getElem?_append_right (by omega), List.getElem?_append_right (by omega), hl, show (i + 1) * 2 - 2 = i * 2 by omega, show (i + 1) * 2 + 1 - 2 = i * 2 + 1 by omega]
      exact this

section
variable {P : Program} {G : Fence} {nF : Nat} {ops : Array Oper} {rest : List Oper} {o : Oper} {a : Act} {Q : Exit → Act → World → Prop} {w : World}
theorem wpListIn_lookup_run (hg : o.guard = none) (m x : Operand) {t : TypeId} {ok : Bool} (hop : o.op = Op.lookup t m x ok) {mv key v : Value} (hm : a.eval m = mv) (hx : a.eval x = key)
    (hrun : (Instr.lookup t mv key ok).run P w = .ok v w) (hK : wpListIn G nF P ops Q rest (a.put o.dst v) w) : wpListIn G nF P ops Q (o :: rest) a w := by
  refine wpListIn_plain hg fun K' hK' => ?_
  unfold Oper.wpIn
  refine ⟨by simp [Oper.about, hop], ?_⟩
  rw [Oper.semAt_plain G _ _ (by rw [hop]; intro c hc'; cases hc')]
  simp [execOp, hop, hm, hx, hrun, Result.andThen]
  exact hK' _ _ hK
end

theorem set4 {w : World} {b : Nat} {a0 a1 a2 a3 : Value} {T : TypeId} (h : w.heap[b]? = some (.cells #[a0, a1, a2, a3] T (0, 0))) (y0 y1 y2 y3 : Value) :
    ((((w.setCell ⟨b, 0, none⟩ y0).setCell ⟨b, 1, none⟩ y1).setCell ⟨b, 2, none⟩ y2).setCell ⟨b, 3, none⟩ y3).heap[b]? = some (.cells #[y0, y1, y2, y3] T (0, 0)) := by
  have := heap_set (o := 3) (heap_set (o := 2) (heap_set (o := 1) (heap_set (o := 0) h y0) y1) y2) y3
  simpa using this

theorem set4_ne {w : World} {b b' : Nat} (h : b' ≠ b) (y0 y1 y2 y3 : Value) :
    ((((w.setCell ⟨b, 0, none⟩ y0).setCell ⟨b, 1, none⟩ y1).setCell ⟨b, 2, none⟩ y2).setCell ⟨b, 3, none⟩ y3).heap[b']? = w.heap[b']? :=
  (heap_set_ne (p := ⟨b, 3, none⟩) h _).trans ((heap_set_ne (p := ⟨b, 2, none⟩) h _).trans ((heap_set_ne (p := ⟨b, 1, none⟩) h _).trans (heap_set_ne (p := ⟨b, 0, none⟩) h _)))

theorem set1 {w : World} {b : Nat} {a0 : Value} {T : TypeId} (h : w.heap[b]? = some (.cells #[a0] T (0, 0))) (y0 : Value) : (w.setCell ⟨b, 0, none⟩ y0).heap[b]? = some (.cells #[y0] T (0, 0)) := by
  have := heap_set (o := 0) h y0
  simpa using this

theorem held_own {X Y : World} {row : Option Nat} {b : Nat} {cs : Array Value} {T : TypeId} (h : X.heap[b]? = some (.cells cs T (0, 0))) (hg : X.grownBy Y row) (hr : ∀ r, row = some r → ∃ o : Obj, X.heap[r]? = some o ∧ o.isCells = false) : Y.heap[b]? = some (.cells cs T (0, 0)) :=
  (hg.block b (heap_lt h) (fun e' => by obtain ⟨o, ho, hc⟩ := hr b e'.symm; rw [h] at ho; cases ho; cases hc)).trans h

/-- A token's cells. -/
def tokCells (x : Tok) : Array Value := #[.int .i64 x.1, .string ⟨x.2.1.toArray⟩, .int .i64 x.2.2.1, .int .i64 x.2.2.2]

section
variable {p : Value} {F : Nat → Prop} {fr : List (Fr (List UInt8) Tok)} {w : World}

set_option maxRecDepth 100000 in
set_option maxHeartbeats 2000000 in
theorem scopeFindInST (h : ScopeST w p F fr) (h0 : 0 < fr.length) (k : List UInt8) (G : Fence) (n : Nat) (h14 : G.fn 30) (h47 : G.fn 49) (h53 : G.fn 54) (hro : G.round = none) (hn : 3 ≤ n) :
    CallsIn G n Try.prog 30 #[p, encS k] w fun e w' =>
      ((e = .returned (.tuple #[zTok, .int .i64 0, .int .i64 6]) ∧ ∀ f ∈ fr, k ∉ f.keys) ∨
        (∃ (i : Nat) (hi : i < fr.length) (x : Tok), e = .returned (.tuple #[encT x, .int .i64 i, .int .i64 0]) ∧ (∃ j : Nat, fr[i].items[j]? = some (k, x)) ∧ ∀ i' (hi' : i' < fr.length), i < i' → k ∉ fr[i'].keys)) ∧ Below w.heap.size w w' := by
  obtain ⟨sb, v, rfl, h1, h2, h3, h4, hF⟩ := h
  obtain ⟨g, off, c, hv, a1, a2, hcell, hfr, hgl⟩ := h2.elt h0
  obtain ⟨S, hS⟩ : ∃ S : ByteArray, S = ⟨k.toArray⟩ := ⟨_, rfl⟩
  have HEK : Hid (encS k = .string S) := Lib.hid (by rw [hS]; rfl)
  have c0 : ((((w.alloc (.cells #[.string S] 9)).alloc (.cells #[.int .i64 0, .string ⟨#[]⟩, .int .i64 0, .int .i64 0] 48)).alloc (.cells #[.int .i64 0] 3)).alloc (.cells #[.int .i64 0] 26)).cell? ⟨sb, 0, none⟩ = some v :=
    cell_of (heap_alloc (heap_alloc (heap_alloc (heap_alloc h1 _) _) _) _) rfl
  rw [hv] at c0
  have HV := Lib.hid hv
  have H1 := Lib.hid h1
  have H2 := Lib.hid h2
  have H3 := Lib.hid h3
  have HC := Lib.hid hcell
  clear hv h1 h2 h3 h4 hF hcell hfr
  rw [HEK.out]
  clear hS
  have hn1 : 1 ≤ n := by omega
  refine callsIn_of_wp_marks Try.func30 rfl h14 ?_ hro
  simp only [Try.ntmps30, List.size_toArray, List.length_cons, List.length_nil, Nat.reduceAdd, Nat.reduceSub, Array.replicate_succ, Array.replicate_zero, List.push_toArray, List.append_toArray, List.nil_append, List.cons_append]
  gi_wp2_with (gi_at_call 49; refine (backCallST G (n - 1) h47 hro _ _ _ _).mono ?_; rintro e w' ⟨rfl, rfl⟩)
  have hB0 : Below w.heap.size w (((((w.alloc (.cells #[.string S] 9)).alloc (.cells #[.int .i64 0, .string ⟨#[]⟩, .int .i64 0, .int .i64 0] 48)).alloc (.cells #[.int .i64 0] 3)).alloc (.cells #[.int .i64 0] 26)).alloc (.cells #[.slice (some ⟨g, off, none⟩) fr.length c] 81)) :=
    ((((((Below.refl _ w).alloc (Nat.le_refl _) _).alloc (by simp) _).alloc (by simp; omega) _).alloc (by simp; omega) _).alloc (by simp; omega) _)
  have hsz : (((((w.alloc (.cells #[.string S] 9)).alloc (.cells #[.int .i64 0, .string ⟨#[]⟩, .int .i64 0, .int .i64 0] 48)).alloc (.cells #[.int .i64 0] 3)).alloc (.cells #[.int .i64 0] 26)).alloc (.cells #[.slice (some ⟨g, off, none⟩) fr.length c] 81)).heap.size = w.heap.size + 5 := by simp
  have b0 : Boxed (((((w.alloc (.cells #[.string S] 9)).alloc (.cells #[.int .i64 0, .string ⟨#[]⟩, .int .i64 0, .int .i64 0] 48)).alloc (.cells #[.int .i64 0] 3)).alloc (.cells #[.int .i64 0] 26)).alloc (.cells #[.slice (some ⟨g, off, none⟩) fr.length c] 81)) w.heap.size 9 (.string S) := ((((Boxed.new w 9 (.string S)).alloc _).alloc _).alloc _).alloc _
  have b1 : (((((w.alloc (.cells #[.string S] 9)).alloc (.cells #[.int .i64 0, .string ⟨#[]⟩, .int .i64 0, .int .i64 0] 48)).alloc (.cells #[.int .i64 0] 3)).alloc (.cells #[.int .i64 0] 26)).alloc (.cells #[.slice (some ⟨g, off, none⟩) fr.length c] 81)).heap[w.heap.size + 1]? = some (.cells #[.int .i64 0, .string ⟨#[]⟩, .int .i64 0, .int .i64 0] 48 (0, 0)) := by
    have := heap_alloc (heap_alloc (heap_alloc (heap_alloc_new (w.alloc (.cells #[.string S] 9)) (.cells #[.int .i64 0, .string ⟨#[]⟩, .int .i64 0, .int .i64 0] 48)) (.cells #[.int .i64 0] 3)) (.cells #[.int .i64 0] 26)) (.cells #[.slice (some ⟨g, off, none⟩) fr.length c] 81)
    rwa [World.size_alloc] at this
  have b2 : Boxed (((((w.alloc (.cells #[.string S] 9)).alloc (.cells #[.int .i64 0, .string ⟨#[]⟩, .int .i64 0, .int .i64 0] 48)).alloc (.cells #[.int .i64 0] 3)).alloc (.cells #[.int .i64 0] 26)).alloc (.cells #[.slice (some ⟨g, off, none⟩) fr.length c] 81)) (w.heap.size + 1 + 1) 3 (.int .i64 0) := by
    have := (((Boxed.new ((w.alloc (.cells #[.string S] 9)).alloc (.cells #[.int .i64 0, .string ⟨#[]⟩, .int .i64 0, .int .i64 0] 48)) 3 (.int .i64 0)).alloc (.cells #[.int .i64 0] 26)).alloc (.cells #[.slice (some ⟨g, off, none⟩) fr.length c] 81))
    rwa [World.size_alloc, World.size_alloc] at this
  have b3 : Boxed (((((w.alloc (.cells #[.string S] 9)).alloc (.cells #[.int .i64 0, .string ⟨#[]⟩, .int .i64 0, .int .i64 0] 48)).alloc (.cells #[.int .i64 0] 3)).alloc (.cells #[.int .i64 0] 26)).alloc (.cells #[.slice (some ⟨g, off, none⟩) fr.length c] 81)) (w.heap.size + 1 + 1 + 1) 26 (.int .i64 0) := by
    have := ((Boxed.new (((w.alloc (.cells #[.string S] 9)).alloc (.cells #[.int .i64 0, .string ⟨#[]⟩, .int .i64 0, .int .i64 0] 48)).alloc (.cells #[.int .i64 0] 3)) 26 (.int .i64 0)).alloc (.cells #[.slice (some ⟨g, off, none⟩) fr.length c] 81))
    rwa [World.size_alloc, World.size_alloc, World.size_alloc] at this
  have b4 : Boxed (((((w.alloc (.cells #[.string S] 9)).alloc (.cells #[.int .i64 0, .string ⟨#[]⟩, .int .i64 0, .int .i64 0] 48)).alloc (.cells #[.int .i64 0] 3)).alloc (.cells #[.int .i64 0] 26)).alloc (.cells #[.slice (some ⟨g, off, none⟩) fr.length c] 81)) (w.heap.size + 1 + 1 + 1 + 1) 81 (.slice (some ⟨g, off, none⟩) fr.length c) := by
    have := Boxed.new ((((w.alloc (.cells #[.string S] 9)).alloc (.cells #[.int .i64 0, .string ⟨#[]⟩, .int .i64 0, .int .i64 0] 48)).alloc (.cells #[.int .i64 0] 3)).alloc (.cells #[.int .i64 0] 26)) 81 (.slice (some ⟨g, off, none⟩) fr.length c)
    rwa [World.size_alloc, World.size_alloc, World.size_alloc, World.size_alloc] at this
  clear c0
  generalize (((((w.alloc (.cells #[.string S] 9)).alloc (.cells #[.int .i64 0, .string ⟨#[]⟩, .int .i64 0, .int .i64 0] 48)).alloc (.cells #[.int .i64 0] 3)).alloc (.cells #[.int .i64 0] 26)).alloc (.cells #[.slice (some ⟨g, off, none⟩) fr.length c] 81)) = W0 at hB0 hsz b0 b1 b2 b3 b4 ⊢
  have hfc : ∀ x : Fin fr.length, (fr.flatMap Fr.cells)[x.1 * 2]? = some (.map (some fr[x.1].mb)) ∧ (fr.flatMap Fr.cells)[x.1 * 2 + 1]? = some fr[x.1].kv := fun x => frameCells fr x.2
  have hk : ∀ x : Fin fr.length, ∃ q : Option Addr × Nat × Nat, fr[x.1].kv = .slice q.1 q.2.1 q.2.2 := fun x => by
    obtain ⟨a, c, e, _⟩ := (H3.out fr[x.1] (List.getElem_mem x.2)).2.1.shape
    exact ⟨(a, _, c), e⟩
  obtain ⟨q, hq⟩ := Classical.axiomOfChoice hk
  have HQ := Lib.hid hq
  clear hk hq
  refine wpIn_rangeFunc_ownH hro hn1 (gf := 54) (lb := #[.pointer (some ⟨w.heap.size + 1 + 1 + 1 + 1, 0, none⟩)]) rfl h53 (enters_of Try.func54 (by kernel_rfl) rfl)
    (backStopsST G (n - 1) h53 hro (by omega) (w.heap.size + 1 + 1 + 1 + 1) W0.heap.size g off fr.length c (fun x => .map (some fr[x.1].mb)) (fun x => (Value.slice (q x).1 (q x).2.1 (q x).2.2)) W0 (by omega) (by omega) (Nat.le_refl _) (by unfold maxLen at a2; omega) b4.cell
      (fun x => (hB0.cell (p := ⟨g, off + x.1 * 2, none⟩) hgl).trans (HC.out _ _ (hfc x).1)) (fun x => (hB0.cell (p := ⟨g, off + x.1 * 2 + 1, none⟩) hgl).trans (HC.out (x.1 * 2 + 1) _ ((hfc x).2.trans (by rw [HQ.out x])))))
    belowK_t (belowK_b (Nat.le_refl _)) (Below.refl _ _) (fun _ => rfl)
    (fun pre W => (∀ x ∈ pre, k ∉ fr[x.1].keys) ∧ Below W0.heap.size W0 W)
    (fun cc pre W => (cc = .ret ∧ ∃ (ini : List (Fin fr.length)) (last : Fin fr.length), pre = ini ++ [last] ∧ (∀ x ∈ ini, k ∉ fr[x.1].keys) ∧ ∃ (j : Nat) (x : Tok), fr[last.1].items[j]? = some (k, x) ∧ W.heap[w.heap.size + 1]? = some (.cells (tokCells x) 48 (0, 0)) ∧ W.heap[w.heap.size + 1 + 1]? = some (.cells #[.int .i64 (last.1 : Int)] 3 (0, 0)) ∧ W.heap[w.heap.size + 1 + 1 + 1]? = some (.cells #[.int .i64 0] 26 (0, 0))) ∧ Below w.heap.size w W)
    (OwnFrom.and (ownFrom_pure _ _) (ownFrom_below (Nat.le_refl _) (Nat.le_refl _)))
    (fun cc => OwnFrom.and (fun s X Y row hs hg hr => by
        obtain ⟨hc, ini, last, e1, e2, j, x, e3, q1, q2, q3⟩ := hs
        exact ⟨hc, ini, last, e1, e2, j, x, e3, held_own q1 hg (fun r e => (hr r e).2), held_own q2 hg (fun r e => (hr r e).2), held_own q3 hg (fun r e => (hr r e).2)⟩) (ownFrom_below (Nat.le_refl _) (by omega)))
    ⟨by simp, Below.refl _ _⟩
    (fun x a' W => ∃ Bx, W0.heap.size ≤ Bx ∧ W.heap[Bx]? = some (.cells #[.map (some fr[x.1].mb), (Value.slice (q x).1 (q x).2.1 (q x).2.2)] 86 (0, 0)) ∧
      a' = { tmps := #[.pointer (some ⟨sb, 0, none⟩), .string S, undef, .pointer (some ⟨w.heap.size, 0, none⟩), .pointer (some ⟨w.heap.size + 1, 0, none⟩), .pointer (some ⟨w.heap.size + 1 + 1, 0, none⟩), .pointer (some ⟨w.heap.size + 1 + 1 + 1, 0, none⟩), .int .i64 (x.1 : Int), .pointer (some ⟨Bx, 0, none⟩), undef, undef,
        .pointer (some ⟨sb, 0, none⟩), .bool false, undef, .pointer (some ⟨sb, 0, none⟩), .pointer (some ⟨sb, 0, none⟩), .pointer (some ⟨sb, 0, none⟩), .slice (some ⟨g, off, none⟩) fr.length c, .func (.func 54) #[] #[.pointer (some ⟨w.heap.size + 1 + 1 + 1 + 1, 0, none⟩)], .int .i64 (x.1 : Int), .agg #[.map (some fr[x.1].mb), (Value.slice (q x).1 (q x).2.1 (q x).2.2)],
        undef, undef, undef, undef, undef, undef, undef, undef, undef, undef, undef], defers := [] })
    (fun x a' _ X Y row hs hg hr => by
        obtain ⟨Bx, z1, z2, z3⟩ := hs
        exact ⟨Bx, z1, held_own z2 hg (fun r e => (hr r e).2), z3⟩)
    ?assign ?body ?done ?stop
  case assign =>
    rintro l pre x W K ⟨hp, hB⟩ hK
    gi_wp2
    exact hK _ _ ((KeepsOthers.alloc _ _).from _) ((Below.refl _ W).alloc hB.size _) ⟨hp, hB.alloc hB.size _⟩ ⟨W.heap.size, hB.size, heap_alloc_new W (.cells #[.map (some fr[x.1].mb), (Value.slice (q x).1 (q x).2.1 (q x).2.2)] 86), rfl⟩
  case body =>
    rintro l pre x a' W hl hr ⟨hp, hB⟩ ⟨Bx, hBx, hcx, rfl⟩ hlt
    have hBw : Below w.heap.size w W := hB0.trans (hB.mono (by omega))
    have q0 : W.cell? ⟨w.heap.size, 0, none⟩ = some (.string S) := (hB.cell (p := ⟨w.heap.size, 0, none⟩) (by show w.heap.size < _; omega)).trans b0.cell
    have e1 : W.heap[w.heap.size + 1]? = some (.cells #[.int .i64 0, .string ⟨#[]⟩, .int .i64 0, .int .i64 0] 48 (0, 0)) := (hB.block _ (by omega)).trans b1
    have e2 : W.heap[w.heap.size + 1 + 1]? = some (.cells #[.int .i64 0] 3 (0, 0)) := (hB.block _ (by omega)).trans b2
    have e3 : W.heap[w.heap.size + 1 + 1 + 1]? = some (.cells #[.int .i64 0] 26 (0, 0)) := (hB.block _ (by omega)).trans b3
    have cm : W.cell? ⟨Bx, 0, none⟩ = some (.map (some fr[x.1].mb)) := cell_of hcx rfl
    have hfx := (H3.out fr[x.1] (List.getElem_mem x.2)).1
    have hmW := hfx.kept (hBw.block _ hfx.lt)
    have HN1 : Hid (w.heap.size + 1 ≠ w.heap.size + 1 + 1) := Lib.hid (by omega)
    have HN2 : Hid (w.heap.size + 1 ≠ w.heap.size + 1 + 1 + 1) := Lib.hid (by omega)
    have HN3 : Hid (w.heap.size + 1 + 1 ≠ w.heap.size + 1 + 1 + 1) := Lib.hid (by omega)
    have E1 := Lib.hid e1
    have E2 := Lib.hid e2
    have E3 := Lib.hid e3
    have HSZ := Lib.hid hsz
    clear hsz e1 e2 e3
    rcases scopeLookST hmW k with ⟨hno, hlook⟩ | ⟨j, y, hit, hlook⟩
    · rw [HEK.out] at hlook
      unfold zTok at hlook
      gi_wp2_with (gi_at_lookup; refine wpListIn_lookup_run rfl _ _ rfl rfl rfl hlook ?_)
      exact ⟨(KeepsOthers.alloc _ _).from _, (Below.refl _ W).alloc hB.size _, fun z hz => (List.mem_append.1 hz).elim (hp z) (fun e => by simp at e; subst e; exact hno), hB.alloc hB.size _⟩
    · obtain ⟨y0, y1, y2, y3⟩ := y
      obtain ⟨U, hU⟩ : ∃ U : ByteArray, U = ⟨y1.toArray⟩ := ⟨_, rfl⟩
      have hEY : encT (y0, y1, y2, y3) = .agg #[.int .i64 y0, .string U, .int .i64 y2, .int .i64 y3] := by rw [hU]; rfl
      have HTC : Hid (tokCells (y0, y1, y2, y3) = #[.int .i64 y0, .string U, .int .i64 y2, .int .i64 y3]) := Lib.hid (by rw [hU]; rfl)
      rw [HEK.out, hEY] at hlook
      have hy := heap_alloc_new W (.cells #[.int .i64 y0, .string U, .int .i64 y2, .int .i64 y3] 48)
      have l1 := heap_alloc E1.out (.cells #[.int .i64 y0, .string U, .int .i64 y2, .int .i64 y3] 48)
      have l2 := heap_alloc E2.out (.cells #[.int .i64 y0, .string U, .int .i64 y2, .int .i64 y3] 48)
      have l3 := heap_alloc E3.out (.cells #[.int .i64 y0, .string U, .int .i64 y2, .int .i64 y3] 48)
      have m10 := cell_of (i := 0) l1 rfl
      have m11 := cell_of (i := 1) l1 rfl
      have m12 := cell_of (i := 2) l1 rfl
      have m13 := cell_of (i := 3) l1 rfl
      have m20 := cell_of (i := 0) l2 rfl
      have m30 := cell_of (i := 0) l3 rfl
      have z10 := frozen_of (i := 0) l1
      have z11 := frozen_of (i := 1) l1
      have z12 := frozen_of (i := 2) l1
      have z13 := frozen_of (i := 3) l1
      have z20 := frozen_of (i := 0) l2
      have z30 := frozen_of (i := 0) l3
      have L1 := Lib.hid l1
      have L2 := Lib.hid l2
      have L3 := Lib.hid l3
      have HIT := Lib.hid hit
      clear hU hEY l1 l2 l3 hit hy
      gi_wp2_with (gi_at_lookup; refine wpListIn_lookup_run rfl _ _ rfl rfl rfl hlook ?_)
      have hsz := HSZ.out
      have K7 := ((((((KeepsOthers.alloc W (.cells #[.int .i64 y0, .string U, .int .i64 y2, .int .i64 y3] 48)).trans (KeepsOthers.setCell _ ⟨w.heap.size + 1, 0, none⟩ (.int .i64 y0))).trans (KeepsOthers.setCell _ ⟨w.heap.size + 1, 1, none⟩ (.string U))).trans (KeepsOthers.setCell _ ⟨w.heap.size + 1, 2, none⟩ (.int .i64 y2))).trans (KeepsOthers.setCell _ ⟨w.heap.size + 1, 3, none⟩ (.int .i64 y3))).trans (KeepsOthers.setCell _ ⟨w.heap.size + 1 + 1, 0, none⟩ (.int .i64 (x.1 : Int)))).trans (KeepsOthers.setCell _ ⟨w.heap.size + 1 + 1 + 1, 0, none⟩ (.int .i64 0))
      have B7 := ((((((hBw.alloc hBw.size (.cells #[.int .i64 y0, .string U, .int .i64 y2, .int .i64 y3] 48)).setCell (p := ⟨w.heap.size + 1, 0, none⟩) (by show _ ≤ w.heap.size + 1; omega) (.int .i64 y0)).setCell (p := ⟨w.heap.size + 1, 1, none⟩) (by show _ ≤ w.heap.size + 1; omega) (.string U)).setCell (p := ⟨w.heap.size + 1, 2, none⟩) (by show _ ≤ w.heap.size + 1; omega) (.int .i64 y2)).setCell (p := ⟨w.heap.size + 1, 3, none⟩) (by show _ ≤ w.heap.size + 1; omega) (.int .i64 y3)).setCell (p := ⟨w.heap.size + 1 + 1, 0, none⟩) (by show _ ≤ w.heap.size + 1 + 1; omega) (.int .i64 (x.1 : Int))).setCell (p := ⟨w.heap.size + 1 + 1 + 1, 0, none⟩) (by show _ ≤ w.heap.size + 1 + 1 + 1; omega) (.int .i64 0)
      refine ⟨K7.from _, ⟨rfl, pre, x, rfl, hp, j, y0, y1, y2, y3, HIT.out, ?_, ?_, ?_⟩, B7⟩
      · rw [HTC.out]
        exact (heap_set_ne (p := ⟨w.heap.size + 1 + 1 + 1, 0, none⟩) HN2.out _).trans ((heap_set_ne (p := ⟨w.heap.size + 1 + 1, 0, none⟩) HN1.out _).trans (set4 L1.out _ _ _ _))
      · exact (heap_set_ne (p := ⟨w.heap.size + 1 + 1 + 1, 0, none⟩) HN3.out _).trans (set1 ((set4_ne (fun e => HN1.out e.symm) _ _ _ _).trans L2.out) _)
      · exact set1 ((heap_set_ne (p := ⟨w.heap.size + 1 + 1, 0, none⟩) (fun e => HN3.out e.symm) _).trans ((set4_ne (fun e => HN2.out e.symm) _ _ _ _).trans L3.out)) _
  case done =>
    rintro D ys W hD rfl ⟨hne, hB⟩ hK
    have hBw : Below w.heap.size w W := hB0.trans (hB.mono (by omega))
    have e1 : W.heap[w.heap.size + 1]? = some (.cells #[.int .i64 0, .string ⟨#[]⟩, .int .i64 0, .int .i64 0] 48 (0, 0)) := (hB.block _ (by omega)).trans b1
    have e2 : W.heap[w.heap.size + 1 + 1]? = some (.cells #[.int .i64 0] 3 (0, 0)) := (hB.block _ (by omega)).trans b2
    have e3 : W.heap[w.heap.size + 1 + 1 + 1]? = some (.cells #[.int .i64 0] 26 (0, 0)) := (hB.block _ (by omega)).trans b3
    have m10 := cell_of (i := 0) e1 rfl
    have m11 := cell_of (i := 1) e1 rfl
    have m12 := cell_of (i := 2) e1 rfl
    have m13 := cell_of (i := 3) e1 rfl
    have m20 := cell_of (i := 0) e2 rfl
    have m30 := cell_of (i := 0) e3 rfl
    have z10 := frozen_of (i := 0) e1
    have z11 := frozen_of (i := 1) e1
    have z12 := frozen_of (i := 2) e1
    have z13 := frozen_of (i := 3) e1
    have z20 := frozen_of (i := 0) e2
    have z30 := frozen_of (i := 0) e3
    have HD := Lib.hid hD
    have HSZ := Lib.hid hsz
    have E1 := Lib.hid e1
    have E2 := Lib.hid e2
    have E3 := Lib.hid e3
    clear hsz hD e1 e2 e3
    gi_wp2
    have hsz := HSZ.out
    have n1 : w.heap.size + 1 ≠ w.heap.size + 1 + 1 := by omega
    have n2 : w.heap.size + 1 ≠ w.heap.size + 1 + 1 + 1 := by omega
    have n3 : w.heap.size + 1 + 1 ≠ w.heap.size + 1 + 1 + 1 := by omega
    have hK' := ((((((KeepsOthers.setCell W ⟨w.heap.size + 1, 0, none⟩ (.int .i64 0)).trans (KeepsOthers.setCell _ ⟨w.heap.size + 1, 1, none⟩ (.string ⟨#[]⟩))).trans (KeepsOthers.setCell _ ⟨w.heap.size + 1, 2, none⟩ (.int .i64 0))).trans (KeepsOthers.setCell _ ⟨w.heap.size + 1, 3, none⟩ (.int .i64 0))).trans (KeepsOthers.setCell _ ⟨w.heap.size + 1 + 1, 0, none⟩ (.int .i64 0))).trans (KeepsOthers.setCell _ ⟨w.heap.size + 1 + 1 + 1, 0, none⟩ (.int .i64 6))).same D _ hK rfl
    have g1 : ((((((W.setCell ⟨w.heap.size + 1, 0, none⟩ (.int .i64 0)).setCell ⟨w.heap.size + 1, 1, none⟩ (.string ⟨#[]⟩)).setCell ⟨w.heap.size + 1, 2, none⟩ (.int .i64 0)).setCell ⟨w.heap.size + 1, 3, none⟩ (.int .i64 0)).setCell ⟨w.heap.size + 1 + 1, 0, none⟩ (.int .i64 0)).setCell ⟨w.heap.size + 1 + 1 + 1, 0, none⟩ (.int .i64 6)).heap[w.heap.size + 1]? = some (.cells #[.int .i64 0, .string ⟨#[]⟩, .int .i64 0, .int .i64 0] 48 (0, 0)) :=
      (heap_set_ne (p := ⟨w.heap.size + 1 + 1 + 1, 0, none⟩) n2 _).trans ((heap_set_ne (p := ⟨w.heap.size + 1 + 1, 0, none⟩) n1 _).trans (set4 E1.out _ _ _ _))
    have g2 : ((((((W.setCell ⟨w.heap.size + 1, 0, none⟩ (.int .i64 0)).setCell ⟨w.heap.size + 1, 1, none⟩ (.string ⟨#[]⟩)).setCell ⟨w.heap.size + 1, 2, none⟩ (.int .i64 0)).setCell ⟨w.heap.size + 1, 3, none⟩ (.int .i64 0)).setCell ⟨w.heap.size + 1 + 1, 0, none⟩ (.int .i64 0)).setCell ⟨w.heap.size + 1 + 1 + 1, 0, none⟩ (.int .i64 6)).heap[w.heap.size + 1 + 1]? = some (.cells #[.int .i64 0] 3 (0, 0)) :=
      (heap_set_ne (p := ⟨w.heap.size + 1 + 1 + 1, 0, none⟩) n3 _).trans (set1 ((set4_ne (fun e => n1 e.symm) _ _ _ _).trans E2.out) _)
    have g3 : ((((((W.setCell ⟨w.heap.size + 1, 0, none⟩ (.int .i64 0)).setCell ⟨w.heap.size + 1, 1, none⟩ (.string ⟨#[]⟩)).setCell ⟨w.heap.size + 1, 2, none⟩ (.int .i64 0)).setCell ⟨w.heap.size + 1, 3, none⟩ (.int .i64 0)).setCell ⟨w.heap.size + 1 + 1, 0, none⟩ (.int .i64 0)).setCell ⟨w.heap.size + 1 + 1 + 1, 0, none⟩ (.int .i64 6)).heap[w.heap.size + 1 + 1 + 1]? = some (.cells #[.int .i64 6] 26 (0, 0)) :=
      set1 ((heap_set_ne (p := ⟨w.heap.size + 1 + 1, 0, none⟩) (fun e => n3 e.symm) _).trans ((set4_ne (fun e => n2 e.symm) _ _ _ _).trans E3.out)) _
    have hBd : Below w.heap.size w ((((((W.setCell ⟨w.heap.size + 1, 0, none⟩ (.int .i64 0)).setCell ⟨w.heap.size + 1, 1, none⟩ (.string ⟨#[]⟩)).setCell ⟨w.heap.size + 1, 2, none⟩ (.int .i64 0)).setCell ⟨w.heap.size + 1, 3, none⟩ (.int .i64 0)).setCell ⟨w.heap.size + 1 + 1, 0, none⟩ (.int .i64 0)).setCell ⟨w.heap.size + 1 + 1 + 1, 0, none⟩ (.int .i64 6)) :=
      (((((hBw.setCell (p := ⟨w.heap.size + 1, 0, none⟩) (by show _ ≤ w.heap.size + 1; omega) (.int .i64 0)).setCell (p := ⟨w.heap.size + 1, 1, none⟩) (by show _ ≤ w.heap.size + 1; omega) (.string ⟨#[]⟩)).setCell (p := ⟨w.heap.size + 1, 2, none⟩) (by show _ ≤ w.heap.size + 1; omega) (.int .i64 0)).setCell (p := ⟨w.heap.size + 1, 3, none⟩) (by show _ ≤ w.heap.size + 1; omega) (.int .i64 0)).setCell (p := ⟨w.heap.size + 1 + 1, 0, none⟩) (by show _ ≤ w.heap.size + 1 + 1; omega) (.int .i64 0)).setCell (p := ⟨w.heap.size + 1 + 1 + 1, 0, none⟩) (by show _ ≤ w.heap.size + 1 + 1 + 1; omega) (.int .i64 6)
    clear m10 m11 m12 m13 m20 m30 z10 z11 z12 z13 z20 z30
    generalize ((((((W.setCell ⟨w.heap.size + 1, 0, none⟩ (.int .i64 0)).setCell ⟨w.heap.size + 1, 1, none⟩ (.string ⟨#[]⟩)).setCell ⟨w.heap.size + 1, 2, none⟩ (.int .i64 0)).setCell ⟨w.heap.size + 1, 3, none⟩ (.int .i64 0)).setCell ⟨w.heap.size + 1 + 1, 0, none⟩ (.int .i64 0)).setCell ⟨w.heap.size + 1 + 1 + 1, 0, none⟩ (.int .i64 6)) = Wd at hK' g1 g2 g3 hBd ⊢
    refine ⟨by simp, .inl ⟨_, _, rfl, run_takeDeferred hK', ?_⟩⟩
    have m10 : Wd.cell? ⟨w.heap.size + 1, 0, none⟩ = some (.int .i64 0) := cell_of g1 rfl
    have m11 : Wd.cell? ⟨w.heap.size + 1, 1, none⟩ = some (.string ⟨#[]⟩) := cell_of g1 rfl
    have m12 : Wd.cell? ⟨w.heap.size + 1, 2, none⟩ = some (.int .i64 0) := cell_of g1 rfl
    have m13 : Wd.cell? ⟨w.heap.size + 1, 3, none⟩ = some (.int .i64 0) := cell_of g1 rfl
    have m20 : Wd.cell? ⟨w.heap.size + 1 + 1, 0, none⟩ = some (.int .i64 0) := cell_of g2 rfl
    have m30 : Wd.cell? ⟨w.heap.size + 1 + 1 + 1, 0, none⟩ = some (.int .i64 6) := cell_of g3 rfl
    have u0 := cell_kept m10 (grownBy_putObj' _ D (.deferred none)) (fun r e => by cases e; exact ⟨_, hK', rfl⟩)
    have u1 := cell_kept m11 (grownBy_putObj' _ D (.deferred none)) (fun r e => by cases e; exact ⟨_, hK', rfl⟩)
    have u2 := cell_kept m12 (grownBy_putObj' _ D (.deferred none)) (fun r e => by cases e; exact ⟨_, hK', rfl⟩)
    have u3 := cell_kept m13 (grownBy_putObj' _ D (.deferred none)) (fun r e => by cases e; exact ⟨_, hK', rfl⟩)
    have u4 := cell_kept m20 (grownBy_putObj' _ D (.deferred none)) (fun r e => by cases e; exact ⟨_, hK', rfl⟩)
    have u5 := cell_kept m30 (grownBy_putObj' _ D (.deferred none)) (fun r e => by cases e; exact ⟨_, hK', rfl⟩)
    have hDD := HD.out
    refine ⟨.tuple #[zTok, .int .i64 0, .int .i64 6], ?_, .inl ⟨rfl, fun f hf => ?_⟩, hBd.trans (belowK_b (w := w) (Nat.le_refl _) Wd D _ _ (by omega) hK' rfl rfl)⟩
    · clear hsz hDD
      unfold zTok
      simp [results, Try.f30, go_sem, u0, u1, u2, u3, u4, u5]
    · obtain ⟨i, hi, rfl⟩ := List.mem_iff_getElem.1 hf
      exact hne ⟨i, hi⟩ ((backST_mem (Nat.le_refl _)).2 (by omega))
  case stop =>
    rintro D cc pre W hD ⟨k', hk', rfl⟩ ⟨⟨rfl, ini, last, e1, e2, j, x, e3, q1, q2, q3⟩, hB⟩ hK
    have hDD : w.heap.size ≤ D := by omega
    obtain ⟨t, rfl⟩ : ∃ t, k' = t + 1 := by
      cases k' with
      | zero => simp [backST] at e1
      | succ t => exact ⟨t, rfl⟩
    rw [backST_succ (by omega)] at e1
    obtain ⟨rfl, e5⟩ := List.append_inj' e1 rfl
    have hlast : last.1 = fr.length - 1 - t := by
      simp only [List.cons.injEq, and_true] at e5
      rw [← e5]
    have HE3 := Lib.hid e3
    have HE2 := Lib.hid e2
    have HL := Lib.hid hlast
    have HK' := Lib.hid hk'
    obtain ⟨y0, y1, y2, y3⟩ := x
    obtain ⟨U, hU⟩ : ∃ U : ByteArray, U = ⟨y1.toArray⟩ := ⟨_, rfl⟩
    have HEY : Hid (encT (y0, y1, y2, y3) = .agg #[.int .i64 y0, .string U, .int .i64 y2, .int .i64 y3]) := Lib.hid (by rw [hU]; rfl)
    have HTC : tokCells (y0, y1, y2, y3) = #[.int .i64 y0, .string U, .int .i64 y2, .int .i64 y3] := by rw [hU]; rfl
    rw [HTC] at q1
    have m10 : W.cell? ⟨w.heap.size + 1, 0, none⟩ = some (.int .i64 y0) := cell_of q1 rfl
    have m11 : W.cell? ⟨w.heap.size + 1, 1, none⟩ = some (.string U) := cell_of q1 rfl
    have m12 : W.cell? ⟨w.heap.size + 1, 2, none⟩ = some (.int .i64 y2) := cell_of q1 rfl
    have m13 : W.cell? ⟨w.heap.size + 1, 3, none⟩ = some (.int .i64 y3) := cell_of q1 rfl
    have m20 : W.cell? ⟨w.heap.size + 1 + 1, 0, none⟩ = some (.int .i64 (last.1 : Int)) := cell_of q2 rfl
    have m30 : W.cell? ⟨w.heap.size + 1 + 1 + 1, 0, none⟩ = some (.int .i64 0) := cell_of q3 rfl
    clear e1 e5 e3 e2 hlast hsz hk' hU HTC
    gi_wp2
    refine ⟨by simp, .inl ⟨_, _, rfl, run_takeDeferred hK, ?_⟩⟩
    have u0 := cell_kept m10 (grownBy_putObj' _ D (.deferred none)) (fun r e => by cases e; exact ⟨_, hK, rfl⟩)
    have u1 := cell_kept m11 (grownBy_putObj' _ D (.deferred none)) (fun r e => by cases e; exact ⟨_, hK, rfl⟩)
    have u2 := cell_kept m12 (grownBy_putObj' _ D (.deferred none)) (fun r e => by cases e; exact ⟨_, hK, rfl⟩)
    have u3 := cell_kept m13 (grownBy_putObj' _ D (.deferred none)) (fun r e => by cases e; exact ⟨_, hK, rfl⟩)
    have u4 := cell_kept m20 (grownBy_putObj' _ D (.deferred none)) (fun r e => by cases e; exact ⟨_, hK, rfl⟩)
    have u5 := cell_kept m30 (grownBy_putObj' _ D (.deferred none)) (fun r e => by cases e; exact ⟨_, hK, rfl⟩)
    refine ⟨.tuple #[encT (y0, y1, y2, y3), .int .i64 (last.1 : Int), .int .i64 0], ?_,   .inr ⟨last.1, last.2, y0, y1, y2, y3, rfl, ⟨j, HE3.out⟩, fun i' hi' hlt => HE2.out ⟨i', hi'⟩ ((backST_mem (by have := HK'.out; omega)).2 (by have := HL.out; have := HK'.out; show fr.length ≤ i' + t; omega))⟩, hB.trans (belowK_b (w := w) (Nat.le_refl _) W D _ _ hDD hK rfl rfl)⟩
    rw [HEY.out]
    simp [results, Try.f30, go_sem, u0, u1, u2, u3, u4, u5]

theorem scopeFindST (h : ScopeST w p F fr) (h0 : 0 < fr.length) (k : List UInt8) :
    Calls Try.prog 30 #[p, encS k] w fun e w' =>
      ((e = .returned (.tuple #[zTok, .int .i64 0, .int .i64 6]) ∧ ∀ f ∈ fr, k ∉ f.keys) ∨
        (∃ (i : Nat) (hi : i < fr.length) (x : Tok), e = .returned (.tuple #[encT x, .int .i64 i, .int .i64 0]) ∧ (∃ j : Nat, fr[i].items[j]? = some (k, x)) ∧ ∀ i' (hi' : i' < fr.length), i < i' → k ∉ fr[i'].keys)) ∧ Below w.heap.size w w' :=
  callsIn_wide.1 (scopeFindInST h h0 k Fence.wide 3 trivial trivial trivial rfl (Nat.le_refl _))
end

end Go.Proofs.Ytllcklddfcclfaa
