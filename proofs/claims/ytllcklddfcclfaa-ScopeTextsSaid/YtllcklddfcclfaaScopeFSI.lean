/- The scope's Find at one pair of types. -/
import Derived.Test.YtllcklddfcclfaaBackSI
import Derived.Test.YtllcklddfcclfaaScopeBSI
import Derived.Maps.OwnIn
namespace Go.Proofs.Ytllcklddfcclfaa
open Go.RowKit Go.Shelf
set_option linter.unusedVariables false
set_option linter.unusedSimpArgs false

attribute [local go_sem] Oper.semAt_some

set_option maxHeartbeats 1000000 in
theorem backCallSI (F : Fence) (n : Nat) (h47 : F.fn 52) (hro : F.round = none) (a : Option Addr) (len cap : Nat) (w : World) :
    CallsIn F n Try.prog 52 #[.slice a len cap] w fun e w' => e = .returned (.func (.func 56) #[] #[.pointer (some ⟨w.heap.size, 0, none⟩)]) ∧ w' = w.alloc (.cells #[.slice a len cap] 104) := by
  refine callsIn_of_wp Try.func52 rfl h47 ?_ hro
  simp only [Try.ntmps52, List.size_toArray, List.length_cons, List.length_nil, Nat.reduceAdd, Nat.reduceSub, Array.replicate_succ, Array.replicate_zero, List.push_toArray, List.append_toArray, List.nil_append, List.cons_append]
  gi_wp2
  go_ret
  exact ⟨rfl, rfl⟩

theorem backStopsSI (F : Fence) (n : Nat) (h53 : F.fn 56) (hro : F.round = none) (hn : 1 ≤ n) (Bs n₀ b off len cap : Nat) (mv kv : Fin len → Value) (w : World) (hBs : Bs < n₀) (hb : b < n₀) (hn₀ : n₀ ≤ w.heap.size) (hl : len ≤ 9223372036854775807)
    (hcB : w.cell? ⟨Bs, 0, none⟩ = some (.slice (some ⟨b, off, none⟩) len cap)) (hc0 : ∀ j : Fin len, w.cell? ⟨b, off + j.1 * 2, none⟩ = some (mv j)) (hc1 : ∀ j : Fin len, w.cell? ⟨b, off + j.1 * 2 + 1, none⟩ = some (kv j)) :
    SeqStopsK F n Try.prog 56 #[.pointer (some ⟨Bs, 0, none⟩)] (fun x : Fin len => #[Value.int .i64 (x.1 : Int), Value.agg #[mv x, kv x]]) (Below n₀) (fun ys => ys = backSI len len)
      (fun pre => ∃ k, k ≤ len ∧ pre = backSI len k) len w := fun l J Jx W hW _ _ hY h0 =>
  backRunSI F n h53 hro hn l Bs n₀ b off len cap hb hBs hl mv kv J Jx hY W ((hW.cell (p := ⟨Bs, 0, none⟩) (by show Bs < _; omega)).trans hcB) (fun j => (hW.cell (p := ⟨b, off + j.1 * 2, none⟩) (by show b < _; omega)).trans (hc0 j)) (fun j => (hW.cell (p := ⟨b, off + j.1 * 2 + 1, none⟩) (by show b < _; omega)).trans (hc1 j)) h0

theorem backSI_mem {len t : Nat} (h : t ≤ len) {i : Fin len} : i ∈ backSI len t ↔ len ≤ i.1 + t := by
  induction t with
  | zero =>
    have := i.2
    simp [backSI]
  | succ t ih =>
    rw [backSI_succ (by omega), List.mem_append, ih (by omega), List.mem_singleton, Fin.ext_iff]
    show _ ∨ i.1 = len - 1 - t ↔ _
    omega

theorem frameCells {α β : Type} (fr : List (Fr α β)) {i : Nat} (hi : i < fr.length) : (fr.flatMap Fr.cells)[i * 2]? = some (.map (some fr[i].mb)) ∧ (fr.flatMap Fr.cells)[i * 2 + 1]? = some fr[i].kv := by
  induction fr generalizing i with
  | nil => simp at hi
  | cons f fs ih =>
    have hl : (Fr.cells f).length = 2 := rfl
    rw [List.flatMap_cons]
    cases i with
    | zero => exact ⟨by simp [Fr.cells], by simp [Fr.cells]⟩
    | succ i =>
      have := ih (i := i) (by simpa using hi)
      rw [List.getElem?_append_right (by omega), List.getElem?_append_right (by omega), hl, show (i + 1) * 2 - 2 = i * 2 by omega, show (i + 1) * 2 + 1 - 2 = i * 2 + 1 by omega]
      exact this

section
variable {P : Program} {G : Fence} {nF : Nat} {ops : Array Oper} {rest : List Oper} {o : Oper} {a : Act} {Q : Exit → Act → World → Prop} {w : World}
theorem wpListIn_lookup_run (hg : o.guard = none) (m x : Operand) {t : TypeId} {ok : Bool} (hop : o.op = Op.lookup t m x ok) {mv key v : Value} (hm : a.eval m = mv) (hx : a.eval x = key)
    (hrun : (Instr.lookup t mv key ok).run P w = .ok v w) (hK : wpListIn G nF P ops Q rest (a.put o.dst v) w) : wpListIn G nF P ops Q (o :: rest) a w := by
  refine wpListIn_plain hg fun K' hK' => ?_
  unfold Oper.wpIn
  refine ⟨by simp [Oper.about, hop], ?_⟩
  rw [Oper.semAt_plain G _ _ (by rw [hop]; intro c hc'; cases hc')]
  simp [execOp, hop, hm, hx, hrun, Result.andThen]
  exact hK' _ _ hK
end

section
variable {p : Value} {F : Nat → Prop} {fr : List (Fr (List UInt8) (Int))} {w : World}

set_option maxRecDepth 100000 in
set_option maxHeartbeats 600000 in
theorem scopeFindInSI (h : ScopeSI w p F fr) (h0 : 0 < fr.length) (k : List UInt8) (G : Fence) (n : Nat) (h14 : G.fn 44) (h47 : G.fn 52) (h53 : G.fn 56) (hro : G.round = none) (hn : 3 ≤ n) :
    CallsIn G n Try.prog 44 #[p, encS k] w fun e w' =>
      ((e = .returned (.tuple #[(.int .i64 0), .int .i64 0, .int .i64 6]) ∧ ∀ f ∈ fr, k ∉ f.keys) ∨
        (∃ (i : Nat) (hi : i < fr.length) (x : Int), e = .returned (.tuple #[encI x, .int .i64 i, .int .i64 0]) ∧ (∃ j : Nat, fr[i].items[j]? = some (k, x)) ∧ ∀ i' (hi' : i' < fr.length), i < i' → k ∉ fr[i'].keys)) ∧ Below w.heap.size w w' := by
  obtain ⟨sb, v, rfl, h1, h2, h3, h4, hF⟩ := h
  obtain ⟨g, off, c, hv, a1, a2, hcell, hfr, hgl⟩ := h2.elt h0
  have c0 : ((((w.alloc (.cells #[(Value.string ⟨k.toArray⟩)] 9)).alloc (.cells #[(.int .i64 0)] 3)).alloc (.cells #[.int .i64 0] 3)).alloc (.cells #[.int .i64 0] 26)).cell? ⟨sb, 0, none⟩ = some v :=
    cell_of (heap_alloc (heap_alloc (heap_alloc (heap_alloc h1 _) _) _) _) rfl
  rw [hv] at c0
  have HV := Lib.hid hv
  have H1 := Lib.hid h1
  have H2 := Lib.hid h2
  have H3 := Lib.hid h3
  have HC := Lib.hid hcell
  clear hv h1 h2 h3 h4 hF hcell hfr
  show CallsIn G n Try.prog 44 #[_, (Value.string ⟨k.toArray⟩)] w _
  have hn1 : 1 ≤ n := by omega
  refine callsIn_of_wp_marks Try.func44 rfl h14 ?_ hro
  simp only [Try.ntmps44, List.size_toArray, List.length_cons, List.length_nil, Nat.reduceAdd, Nat.reduceSub, Array.replicate_succ, Array.replicate_zero, List.push_toArray, List.append_toArray, List.nil_append, List.cons_append]
  gi_wp2_with (gi_at_call 52; refine (backCallSI G (n - 1) h47 hro _ _ _ _).mono ?_; rintro e w' ⟨rfl, rfl⟩)
  have hB0 : Below w.heap.size w (((((w.alloc (.cells #[(Value.string ⟨k.toArray⟩)] 9)).alloc (.cells #[(.int .i64 0)] 3)).alloc (.cells #[.int .i64 0] 3)).alloc (.cells #[.int .i64 0] 26)).alloc (.cells #[.slice (some ⟨g, off, none⟩) fr.length c] 104)) :=
    ((((((Below.refl _ w).alloc (Nat.le_refl _) _).alloc (by simp) _).alloc (by simp; omega) _).alloc (by simp; omega) _).alloc (by simp; omega) _)
  have hsz : (((((w.alloc (.cells #[(Value.string ⟨k.toArray⟩)] 9)).alloc (.cells #[(.int .i64 0)] 3)).alloc (.cells #[.int .i64 0] 3)).alloc (.cells #[.int .i64 0] 26)).alloc (.cells #[.slice (some ⟨g, off, none⟩) fr.length c] 104)).heap.size = w.heap.size + 5 := by simp
  have b0 : Boxed (((((w.alloc (.cells #[(Value.string ⟨k.toArray⟩)] 9)).alloc (.cells #[(.int .i64 0)] 3)).alloc (.cells #[.int .i64 0] 3)).alloc (.cells #[.int .i64 0] 26)).alloc (.cells #[.slice (some ⟨g, off, none⟩) fr.length c] 104)) w.heap.size 9 (Value.string ⟨k.toArray⟩) := ((((Boxed.new w 9 (Value.string ⟨k.toArray⟩)).alloc _).alloc _).alloc _).alloc _
  have b1 : Boxed (((((w.alloc (.cells #[(Value.string ⟨k.toArray⟩)] 9)).alloc (.cells #[(.int .i64 0)] 3)).alloc (.cells #[.int .i64 0] 3)).alloc (.cells #[.int .i64 0] 26)).alloc (.cells #[.slice (some ⟨g, off, none⟩) fr.length c] 104)) (w.heap.size + 1) 3 (.int .i64 0) := by
    have := ((((Boxed.new (w.alloc (.cells #[(Value.string ⟨k.toArray⟩)] 9)) 3 (.int .i64 0)).alloc (.cells #[.int .i64 0] 3)).alloc (.cells #[.int .i64 0] 26)).alloc (.cells #[.slice (some ⟨g, off, none⟩) fr.length c] 104))
    rwa [World.size_alloc] at this
  have b2 : Boxed (((((w.alloc (.cells #[(Value.string ⟨k.toArray⟩)] 9)).alloc (.cells #[(.int .i64 0)] 3)).alloc (.cells #[.int .i64 0] 3)).alloc (.cells #[.int .i64 0] 26)).alloc (.cells #[.slice (some ⟨g, off, none⟩) fr.length c] 104)) (w.heap.size + 1 + 1) 3 (.int .i64 0) := by
    have := (((Boxed.new ((w.alloc (.cells #[(Value.string ⟨k.toArray⟩)] 9)).alloc (.cells #[(.int .i64 0)] 3)) 3 (.int .i64 0)).alloc (.cells #[.int .i64 0] 26)).alloc (.cells #[.slice (some ⟨g, off, none⟩) fr.length c] 104))
    rwa [World.size_alloc, World.size_alloc] at this
  have b3 : Boxed (((((w.alloc (.cells #[(Value.string ⟨k.toArray⟩)] 9)).alloc (.cells #[(.int .i64 0)] 3)).alloc (.cells #[.int .i64 0] 3)).alloc (.cells #[.int .i64 0] 26)).alloc (.cells #[.slice (some ⟨g, off, none⟩) fr.length c] 104)) (w.heap.size + 1 + 1 + 1) 26 (.int .i64 0) := by
    have := ((Boxed.new (((w.alloc (.cells #[(Value.string ⟨k.toArray⟩)] 9)).alloc (.cells #[(.int .i64 0)] 3)).alloc (.cells #[.int .i64 0] 3)) 26 (.int .i64 0)).alloc (.cells #[.slice (some ⟨g, off, none⟩) fr.length c] 104))
    rwa [World.size_alloc, World.size_alloc, World.size_alloc] at this
  have b4 : Boxed (((((w.alloc (.cells #[(Value.string ⟨k.toArray⟩)] 9)).alloc (.cells #[(.int .i64 0)] 3)).alloc (.cells #[.int .i64 0] 3)).alloc (.cells #[.int .i64 0] 26)).alloc (.cells #[.slice (some ⟨g, off, none⟩) fr.length c] 104)) (w.heap.size + 1 + 1 + 1 + 1) 104 (.slice (some ⟨g, off, none⟩) fr.length c) := by
    have := Boxed.new ((((w.alloc (.cells #[(Value.string ⟨k.toArray⟩)] 9)).alloc (.cells #[(.int .i64 0)] 3)).alloc (.cells #[.int .i64 0] 3)).alloc (.cells #[.int .i64 0] 26)) 104 (.slice (some ⟨g, off, none⟩) fr.length c)
    rwa [World.size_alloc, World.size_alloc, World.size_alloc, World.size_alloc] at this
  clear c0
  generalize (((((w.alloc (.cells #[(Value.string ⟨k.toArray⟩)] 9)).alloc (.cells #[(.int .i64 0)] 3)).alloc (.cells #[.int .i64 0] 3)).alloc (.cells #[.int .i64 0] 26)).alloc (.cells #[.slice (some ⟨g, off, none⟩) fr.length c] 104)) = W0 at hB0 hsz b0 b1 b2 b3 b4 ⊢
  have hfc : ∀ x : Fin fr.length, (fr.flatMap Fr.cells)[x.1 * 2]? = some (.map (some fr[x.1].mb)) ∧ (fr.flatMap Fr.cells)[x.1 * 2 + 1]? = some fr[x.1].kv := fun x => frameCells fr x.2
  have hk : ∀ x : Fin fr.length, ∃ q : Option Addr × Nat × Nat, fr[x.1].kv = .slice q.1 q.2.1 q.2.2 := fun x => by
    obtain ⟨a, c, e, _⟩ := (H3.out fr[x.1] (List.getElem_mem x.2)).2.1.shape
    exact ⟨(a, _, c), e⟩
  obtain ⟨q, hq⟩ := Classical.axiomOfChoice hk
  have HQ := Lib.hid hq
  clear hk hq
  refine wpIn_rangeFunc_ownH hro hn1 (gf := 56) (lb := #[.pointer (some ⟨w.heap.size + 1 + 1 + 1 + 1, 0, none⟩)]) rfl h53 (enters_of Try.func56 (by kernel_rfl) rfl)
    (backStopsSI G (n - 1) h53 hro (by omega) (w.heap.size + 1 + 1 + 1 + 1) W0.heap.size g off fr.length c (fun x => .map (some fr[x.1].mb)) (fun x => (Value.slice (q x).1 (q x).2.1 (q x).2.2)) W0 (by omega) (by omega) (Nat.le_refl _) (by unfold maxLen at a2; omega) b4.cell
      (fun x => (hB0.cell (p := ⟨g, off + x.1 * 2, none⟩) hgl).trans (HC.out _ _ (hfc x).1)) (fun x => (hB0.cell (p := ⟨g, off + x.1 * 2 + 1, none⟩) hgl).trans (HC.out (x.1 * 2 + 1) _ ((hfc x).2.trans (by rw [HQ.out x])))))
    belowK_t (belowK_b (Nat.le_refl _)) (Below.refl _ _) (fun _ => rfl)
    (fun pre W => (∀ x ∈ pre, k ∉ fr[x.1].keys) ∧ Below W0.heap.size W0 W)
    (fun cc pre W => (cc = .ret ∧ ∃ (ini : List (Fin fr.length)) (last : Fin fr.length), pre = ini ++ [last] ∧ (∀ x ∈ ini, k ∉ fr[x.1].keys) ∧ ∃ (j : Nat) (x : Int), fr[last.1].items[j]? = some (k, x) ∧ Boxed W (w.heap.size + 1) 3 (encI x) ∧ Boxed W (w.heap.size + 1 + 1) 3 (.int .i64 (last.1 : Int)) ∧ Boxed W (w.heap.size + 1 + 1 + 1) 26 (.int .i64 0)) ∧ Below w.heap.size w W)
    (OwnFrom.and (ownFrom_pure _ _) (ownFrom_below (Nat.le_refl _) (Nat.le_refl _)))
    (fun cc => OwnFrom.and (fun s X Y row hs hg hr => by
        obtain ⟨hc, ini, last, e1, e2, j, x, e3, q1, q2, q3⟩ := hs
        exact ⟨hc, ini, last, e1, e2, j, x, e3, boxed_own _ _ (fun (_ : Unit) => _) () X Y row q1 hg (fun r e => (hr r e).2), boxed_own _ _ (fun (_ : Unit) => _) () X Y row q2 hg (fun r e => (hr r e).2), boxed_own _ _ (fun (_ : Unit) => _) () X Y row q3 hg (fun r e => (hr r e).2)⟩) (ownFrom_below (Nat.le_refl _) (by omega)))
    ⟨by simp, Below.refl _ _⟩
    (fun x a' W => ∃ Bx, W0.heap.size ≤ Bx ∧ W.heap[Bx]? = some (.cells #[.map (some fr[x.1].mb), (Value.slice (q x).1 (q x).2.1 (q x).2.2)] 110 (0, 0)) ∧
      a' = { tmps := #[.pointer (some ⟨sb, 0, none⟩), (Value.string ⟨k.toArray⟩), undef, .pointer (some ⟨w.heap.size, 0, none⟩), .pointer (some ⟨w.heap.size + 1, 0, none⟩), .pointer (some ⟨w.heap.size + 1 + 1, 0, none⟩), .pointer (some ⟨w.heap.size + 1 + 1 + 1, 0, none⟩), .int .i64 (x.1 : Int), .pointer (some ⟨Bx, 0, none⟩), undef, undef,
        .pointer (some ⟨sb, 0, none⟩), .bool false, undef, .pointer (some ⟨sb, 0, none⟩), .pointer (some ⟨sb, 0, none⟩), .pointer (some ⟨sb, 0, none⟩), .slice (some ⟨g, off, none⟩) fr.length c, .func (.func 56) #[] #[.pointer (some ⟨w.heap.size + 1 + 1 + 1 + 1, 0, none⟩)], .int .i64 (x.1 : Int), .agg #[.map (some fr[x.1].mb), (Value.slice (q x).1 (q x).2.1 (q x).2.2)],
        undef, undef, undef, undef, undef, undef, undef, undef, undef, undef, undef], defers := [] })
    (fun x a' _ X Y row hs hg hr => by
        obtain ⟨Bx, z1, z2, z3⟩ := hs
        refine ⟨Bx, z1, ?_, z3⟩
        exact ((Kept.refl (fun b => ∃ o : Obj, X.heap[b]? = some o ∧ o.isCells = false) X).grown hg (fun r e _ => (hr r e).2)).block Bx (heap_lt z2) (fun ⟨o, ho, hc⟩ => by rw [z2] at ho; cases ho; cases hc) |>.trans z2)
    ?assign ?body ?done ?stop
  case assign =>
    rintro l pre x W K ⟨hp, hB⟩ hK
    gi_wp2
    exact hK _ _ ((KeepsOthers.alloc _ _).from _) ((Below.refl _ W).alloc hB.size _) ⟨hp, hB.alloc hB.size _⟩ ⟨W.heap.size, hB.size, heap_alloc_new W (.cells #[.map (some fr[x.1].mb), (Value.slice (q x).1 (q x).2.1 (q x).2.2)] 110), rfl⟩
  case body =>
    rintro l pre x a' W hl hr ⟨hp, hB⟩ ⟨Bx, hBx, hcx, rfl⟩ hlt
    have hBw : Below w.heap.size w W := hB0.trans (hB.mono (by omega))
    have q0 : W.cell? ⟨w.heap.size, 0, none⟩ = some (Value.string ⟨k.toArray⟩) := (hB.cell (p := ⟨w.heap.size, 0, none⟩) (by show w.heap.size < _; omega)).trans b0.cell
    have c1 : W.cell? ⟨w.heap.size + 1, 0, none⟩ = some (.int .i64 0) := (hB.cell (p := ⟨w.heap.size + 1, 0, none⟩) (by show w.heap.size + 1 < _; omega)).trans b1.cell
    have c2 : W.cell? ⟨w.heap.size + 1 + 1, 0, none⟩ = some (.int .i64 0) := (hB.cell (p := ⟨w.heap.size + 1 + 1, 0, none⟩) (by show w.heap.size + 1 + 1 < _; omega)).trans b2.cell
    have c3 : W.cell? ⟨w.heap.size + 1 + 1 + 1, 0, none⟩ = some (.int .i64 0) := (hB.cell (p := ⟨w.heap.size + 1 + 1 + 1, 0, none⟩) (by show w.heap.size + 1 + 1 + 1 < _; omega)).trans b3.cell
    have e1 : W.heap[w.heap.size + 1]? = some (.cells #[(.int .i64 0)] 3 (0, 0)) := (hB.block _ (by omega)).trans b1
    have e2 : W.heap[w.heap.size + 1 + 1]? = some (.cells #[.int .i64 0] 3 (0, 0)) := (hB.block _ (by omega)).trans b2
    have e3 : W.heap[w.heap.size + 1 + 1 + 1]? = some (.cells #[.int .i64 0] 26 (0, 0)) := (hB.block _ (by omega)).trans b3
    have f1 : W.frozen? ⟨w.heap.size + 1, 0, none⟩ = false := frozen_of e1
    have f2 : W.frozen? ⟨w.heap.size + 1 + 1, 0, none⟩ = false := frozen_of e2
    have f3 : W.frozen? ⟨w.heap.size + 1 + 1 + 1, 0, none⟩ = false := frozen_of e3
    have cm : W.cell? ⟨Bx, 0, none⟩ = some (.map (some fr[x.1].mb)) := cell_of hcx rfl
    have hfx := (H3.out fr[x.1] (List.getElem_mem x.2)).1
    have hmW := hfx.kept (hBw.block _ hfx.lt)
    have hne1 : w.heap.size + 1 ≠ w.heap.size + 1 + 1 := by omega
    have hne2 : w.heap.size + 1 ≠ w.heap.size + 1 + 1 + 1 := by omega
    have hne3 : w.heap.size + 1 + 1 ≠ w.heap.size + 1 + 1 + 1 := by omega
    have HN1 := Lib.hid hne1
    have HN2 := Lib.hid hne2
    have HN3 := Lib.hid hne3
    have E1 := Lib.hid e1
    have E2 := Lib.hid e2
    have E3 := Lib.hid e3
    clear hsz hne1 hne2 hne3 e1 e2 e3
    rcases scopeLookSI hmW k with ⟨hno, hlook⟩ | ⟨j, y, hit, hlook⟩
    · have hlook' : (Instr.lookup 108 (.map (some fr[x.1].mb)) (Value.string ⟨k.toArray⟩) true).run Try.prog W = .ok (.tuple #[(.int .i64 0), .bool false]) W := hlook
      clear hlook
      gi_wp2_with (gi_at_lookup; refine wpListIn_lookup_run rfl _ _ rfl rfl rfl hlook' ?_)
      exact ⟨KeepsFrom.refl _ _, Below.refl _ _, fun z hz => (List.mem_append.1 hz).elim (hp z) (fun e => by simp at e; subst e; exact hno), hB⟩
    · have hlook' : (Instr.lookup 108 (.map (some fr[x.1].mb)) (Value.string ⟨k.toArray⟩) true).run Try.prog W = .ok (.tuple #[encI y, .bool true]) W := hlook
      clear hlook
      unfold encI at hlook'
      gi_wp2_with (gi_at_lookup; refine wpListIn_lookup_run rfl _ _ rfl rfl rfl hlook' ?_)
      have g1 : Boxed (W.setCell ⟨w.heap.size + 1, 0, none⟩ (encI y)) (w.heap.size + 1) 3 (encI y) := by
        have := heap_set (o := 0) E1.out (encI y)
        simpa [Boxed] using this
      have g2 : Boxed ((W.setCell ⟨w.heap.size + 1, 0, none⟩ (encI y)).setCell ⟨w.heap.size + 1 + 1, 0, none⟩ (.int .i64 (x.1 : Int))) (w.heap.size + 1 + 1) 3 (.int .i64 (x.1 : Int)) := by
        have := heap_set (o := 0) ((heap_set_ne (p := ⟨w.heap.size + 1, 0, none⟩) (fun e => HN1.out e.symm) (encI y)).trans E2.out) (.int .i64 (x.1 : Int))
        simpa [Boxed] using this
      have g3 : Boxed (((W.setCell ⟨w.heap.size + 1, 0, none⟩ (encI y)).setCell ⟨w.heap.size + 1 + 1, 0, none⟩ (.int .i64 (x.1 : Int))).setCell ⟨w.heap.size + 1 + 1 + 1, 0, none⟩ (.int .i64 0)) (w.heap.size + 1 + 1 + 1) 26 (.int .i64 0) := by
        have := heap_set (o := 0) ((heap_set_ne (p := ⟨w.heap.size + 1 + 1, 0, none⟩) (fun e => HN3.out e.symm) (.int .i64 (x.1 : Int))).trans ((heap_set_ne (p := ⟨w.heap.size + 1, 0, none⟩) (fun e => HN2.out e.symm) (encI y)).trans E3.out)) (.int .i64 0)
        simpa [Boxed] using this
      exact ⟨(((KeepsOthers.setCell _ _ _).trans (KeepsOthers.setCell _ _ _)).trans (KeepsOthers.setCell _ _ _)).from _,
        ⟨rfl, pre, x, rfl, hp, j, y, hit, (g1.other HN1.out _).other HN2.out _, g2.other HN3.out _, g3⟩,
        ((hBw.setCell (p := ⟨w.heap.size + 1, 0, none⟩) (by show _ ≤ w.heap.size + 1; omega) _).setCell (p := ⟨w.heap.size + 1 + 1, 0, none⟩) (by show _ ≤ w.heap.size + 1 + 1; omega) _).setCell (p := ⟨w.heap.size + 1 + 1 + 1, 0, none⟩) (by show _ ≤ w.heap.size + 1 + 1 + 1; omega) _⟩
  case done =>
    rintro D ys W hD rfl ⟨hne, hB⟩ hK
    have hBw : Below w.heap.size w W := hB0.trans (hB.mono (by omega))
    have c1 : W.cell? ⟨w.heap.size + 1, 0, none⟩ = some (.int .i64 0) := (hB.cell (p := ⟨w.heap.size + 1, 0, none⟩) (by show w.heap.size + 1 < _; omega)).trans b1.cell
    have e1 : W.heap[w.heap.size + 1]? = some (.cells #[(.int .i64 0)] 3 (0, 0)) := (hB.block _ (by omega)).trans b1
    have e2 : W.heap[w.heap.size + 1 + 1]? = some (.cells #[.int .i64 0] 3 (0, 0)) := (hB.block _ (by omega)).trans b2
    have e3 : W.heap[w.heap.size + 1 + 1 + 1]? = some (.cells #[.int .i64 0] 26 (0, 0)) := (hB.block _ (by omega)).trans b3
    have c2 : W.cell? ⟨w.heap.size + 1 + 1, 0, none⟩ = some (.int .i64 0) := cell_of e2 rfl
    have c3 : W.cell? ⟨w.heap.size + 1 + 1 + 1, 0, none⟩ = some (.int .i64 0) := cell_of e3 rfl
    have f1 : W.frozen? ⟨w.heap.size + 1, 0, none⟩ = false := frozen_of e1
    have f2 : W.frozen? ⟨w.heap.size + 1 + 1, 0, none⟩ = false := frozen_of e2
    have f3 : W.frozen? ⟨w.heap.size + 1 + 1 + 1, 0, none⟩ = false := frozen_of e3
    have HD := Lib.hid hD
    have HSZ := Lib.hid hsz
    have E1 := Lib.hid e1
    have E2 := Lib.hid e2
    have E3 := Lib.hid e3
    clear hsz hD e1 e2 e3
    gi_wp2
    have hK' := (((KeepsOthers.setCell W ⟨w.heap.size + 1, 0, none⟩ (.int .i64 0)).trans (KeepsOthers.setCell _ ⟨w.heap.size + 1 + 1, 0, none⟩ (.int .i64 0))).trans (KeepsOthers.setCell _ ⟨w.heap.size + 1 + 1 + 1, 0, none⟩ (.int .i64 6))).same D _ hK rfl
    have hsz := HSZ.out
    have g1 : Boxed (W.setCell ⟨w.heap.size + 1, 0, none⟩ (.int .i64 0)) (w.heap.size + 1) 3 (.int .i64 0) := by
      have := heap_set (o := 0) E1.out (.int .i64 0)
      simpa [Boxed] using this
    have g2 : Boxed ((W.setCell ⟨w.heap.size + 1, 0, none⟩ (.int .i64 0)).setCell ⟨w.heap.size + 1 + 1, 0, none⟩ (.int .i64 0)) (w.heap.size + 1 + 1) 3 (.int .i64 0) := by
      have := heap_set (o := 0) ((heap_set_ne (p := ⟨w.heap.size + 1, 0, none⟩) (by show w.heap.size + 1 + 1 ≠ w.heap.size + 1; omega) (.int .i64 0)).trans E2.out) (.int .i64 0)
      simpa [Boxed] using this
    have g3 : Boxed (((W.setCell ⟨w.heap.size + 1, 0, none⟩ (.int .i64 0)).setCell ⟨w.heap.size + 1 + 1, 0, none⟩ (.int .i64 0)).setCell ⟨w.heap.size + 1 + 1 + 1, 0, none⟩ (.int .i64 6)) (w.heap.size + 1 + 1 + 1) 26 (.int .i64 6) := by
      have := heap_set (o := 0) ((heap_set_ne (p := ⟨w.heap.size + 1 + 1, 0, none⟩) (by show w.heap.size + 1 + 1 + 1 ≠ w.heap.size + 1 + 1; omega) (.int .i64 0)).trans ((heap_set_ne (p := ⟨w.heap.size + 1, 0, none⟩) (by show w.heap.size + 1 + 1 + 1 ≠ w.heap.size + 1; omega) (.int .i64 0)).trans E3.out)) (.int .i64 6)
      simpa [Boxed] using this
    have gg1 := (g1.other (B' := w.heap.size + 1 + 1) (by omega) (.int .i64 0)).other (B' := w.heap.size + 1 + 1 + 1) (by omega) (.int .i64 6)
    have gg2 := g2.other (B' := w.heap.size + 1 + 1 + 1) (by omega) (.int .i64 6)
    have hBd : Below w.heap.size w (((W.setCell ⟨w.heap.size + 1, 0, none⟩ (.int .i64 0)).setCell ⟨w.heap.size + 1 + 1, 0, none⟩ (.int .i64 0)).setCell ⟨w.heap.size + 1 + 1 + 1, 0, none⟩ (.int .i64 6)) :=
      ((hBw.setCell (p := ⟨w.heap.size + 1, 0, none⟩) (by show _ ≤ w.heap.size + 1; omega) _).setCell (p := ⟨w.heap.size + 1 + 1, 0, none⟩) (by show _ ≤ w.heap.size + 1 + 1; omega) _).setCell (p := ⟨w.heap.size + 1 + 1 + 1, 0, none⟩) (by show _ ≤ w.heap.size + 1 + 1 + 1; omega) _
    generalize (((W.setCell ⟨w.heap.size + 1, 0, none⟩ (.int .i64 0)).setCell ⟨w.heap.size + 1 + 1, 0, none⟩ (.int .i64 0)).setCell ⟨w.heap.size + 1 + 1 + 1, 0, none⟩ (.int .i64 6)) = Wd at hK' gg1 gg2 g3 hBd ⊢
    refine ⟨by simp, .inl ⟨_, _, rfl, run_takeDeferred hK', ?_⟩⟩
    have z1 := cell_kept gg1.cell (grownBy_putObj' _ D (.deferred none)) (fun r e => by cases e; exact ⟨_, hK', rfl⟩)
    have z2 := cell_kept gg2.cell (grownBy_putObj' _ D (.deferred none)) (fun r e => by cases e; exact ⟨_, hK', rfl⟩)
    have z3 := cell_kept g3.cell (grownBy_putObj' _ D (.deferred none)) (fun r e => by cases e; exact ⟨_, hK', rfl⟩)
    have hDD := HD.out
    refine ⟨.tuple #[(.int .i64 0), .int .i64 0, .int .i64 6], ?_, .inl ⟨rfl, fun f hf => ?_⟩, hBd.trans (belowK_b (w := w) (Nat.le_refl _) Wd D _ _ (by omega) hK' rfl rfl)⟩
    · clear hsz hDD
      simp [results, Try.f44, go_sem, z1, z2, z3]
    · obtain ⟨i, hi, rfl⟩ := List.mem_iff_getElem.1 hf
      exact hne ⟨i, hi⟩ ((backSI_mem (Nat.le_refl _)).2 (by omega))
  case stop =>
    rintro D cc pre W hD ⟨k', hk', rfl⟩ ⟨⟨rfl, ini, last, e1, e2, j, x, e3, q1, q2, q3⟩, hB⟩ hK
    have hDD : w.heap.size ≤ D := by omega
    obtain ⟨t, rfl⟩ : ∃ t, k' = t + 1 := by
      cases k' with
      | zero => simp [backSI] at e1
      | succ t => exact ⟨t, rfl⟩
    rw [backSI_succ (by omega)] at e1
    obtain ⟨rfl, e5⟩ := List.append_inj' e1 rfl
    have hlast : last.1 = fr.length - 1 - t := by
      simp only [List.cons.injEq, and_true] at e5
      rw [← e5]
    have HE3 := Lib.hid e3
    have HE2 := Lib.hid e2
    have HL := Lib.hid hlast
    have HK' := Lib.hid hk'
    clear e1 e5 e3 e2 hlast hsz hk'
    gi_wp2
    refine ⟨by simp, .inl ⟨_, _, rfl, run_takeDeferred hK, ?_⟩⟩
    have z1 := cell_kept q1.cell (grownBy_putObj' _ D (.deferred none)) (fun r e => by cases e; exact ⟨_, hK, rfl⟩)
    have z2 := cell_kept q2.cell (grownBy_putObj' _ D (.deferred none)) (fun r e => by cases e; exact ⟨_, hK, rfl⟩)
    have z3 := cell_kept q3.cell (grownBy_putObj' _ D (.deferred none)) (fun r e => by cases e; exact ⟨_, hK, rfl⟩)
    refine ⟨.tuple #[encI x, .int .i64 (last.1 : Int), .int .i64 0], ?_,   .inr ⟨last.1, last.2, x, rfl, ⟨j, HE3.out⟩, fun i' hi' hlt => HE2.out ⟨i', hi'⟩ ((backSI_mem (by have := HK'.out; omega)).2 (by have := HL.out; have := HK'.out; show fr.length ≤ i' + t; omega))⟩, hB.trans (belowK_b (w := w) (Nat.le_refl _) W D _ _ hDD hK rfl rfl)⟩
    simp [results, Try.f44, go_sem, z1, z2, z3]

theorem scopeFindSI (h : ScopeSI w p F fr) (h0 : 0 < fr.length) (k : List UInt8) :
    Calls Try.prog 44 #[p, encS k] w fun e w' =>
      ((e = .returned (.tuple #[(.int .i64 0), .int .i64 0, .int .i64 6]) ∧ ∀ f ∈ fr, k ∉ f.keys) ∨
        (∃ (i : Nat) (hi : i < fr.length) (x : Int), e = .returned (.tuple #[encI x, .int .i64 i, .int .i64 0]) ∧ (∃ j : Nat, fr[i].items[j]? = some (k, x)) ∧ ∀ i' (hi' : i' < fr.length), i < i' → k ∉ fr[i'].keys)) ∧ Below w.heap.size w w' :=
  callsIn_wide.1 (scopeFindInSI h h0 k Fence.wide 3 trivial trivial trivial rfl (Nat.le_refl _))
end

end Go.Proofs.Ytllcklddfcclfaa
