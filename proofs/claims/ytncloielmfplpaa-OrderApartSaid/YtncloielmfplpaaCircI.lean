/- order.graph.circles at one type of things: the groups. -/
import Derived.Test.YtncloielmfplpaaReachI
import Derived.Test.YtncloielmfplpaaWalk5
import Derived.Test.YtncloielmfplpaaBack5
import Derived.Test.YtncloielmfplpaaCirc5
import Derived.Test.YtncloielmfplpaaClear5
import Derived.Maps.OwnIn
namespace Go.Proofs.Ytncloielmfplpaa
open Go.RowKit Go.Shelf
set_option linter.unusedVariables false
set_option linter.unusedSimpArgs false

attribute [local go_sem] Oper.semAt_some

/-- circles' memory in the midst: the graph, the two answers' cells, the graph against the arrows. -/
structure CMI (n : Nat) (na : Option Addr) (nc : Nat) (ua : Option Addr) (uc : Nat) (w wr : World) (gv cv bv : Value) (FB : Nat → Prop) (BK : List (List Nat)) : Prop where
  cg : wr.heap[w.heap.size]? = some (.cells #[.slice na n nc, .slice ua n uc] 54 (0, 0))
  c1 : wr.heap[w.heap.size + 1]? = some (.cells #[gv] 22 (0, 0))
  c2 : wr.heap[w.heap.size + 1 + 1]? = some (.cells #[cv] 3 (0, 0))
  c4 : wr.heap[w.heap.size + 3 + 1]? = some (.cells #[bv] 29 (0, 0))
  ls : LsN wr bv FB BK
  fb : ∀ b, FB b → w.heap.size + 1 + 1 < b ∧ b ≠ w.heap.size + 3 + 1
  kept : Kept (fun b => w.heap.size ≤ b) w wr

theorem CMI.frame {n : Nat} {na : Option Addr} {nc : Nat} {ua : Option Addr} {uc : Nat} {w wr w' : World} {gv cv bv : Value} {FB G : Nat → Prop} {BK : List (List Nat)} (h : CMI n na nc ua uc w wr gv cv bv FB BK) (hk : Kept G wr w') (hG : ∀ b, G b → w.heap.size + 3 + 1 < b ∧ ¬ FB b) : CMI n na nc ua uc w w' gv cv bv FB BK :=
  ⟨(hk.block _ (heap_lt h.cg) (fun g => by have := (hG _ g).1; omega)).trans h.cg, (hk.block _ (heap_lt h.c1) (fun g => by have := (hG _ g).1; omega)).trans h.c1, (hk.block _ (heap_lt h.c2) (fun g => by have := (hG _ g).1; omega)).trans h.c2, (hk.block _ (heap_lt h.c4) (fun g => by have := (hG _ g).1; omega)).trans h.c4,
    h.ls.frame hk (fun b hb g => (hG b g).2 hb), h.fb, h.kept.trans' hk (fun b hb g => by have := (hG b g).1; omega)⟩

/-- One edge more. -/
theorem CMI.put {n : Nat} {na : Option Addr} {nc : Nat} {ua : Option Addr} {uc : Nat} {w wr w2 : World} {gv cv bv : Value} {FB : Nat → Prop} {A : List (Nat × Nat)} {o : Obj} (h : CMI n na nc ua uc w wr gv cv bv FB (adjP n A)) {i j : Nat} (hi : i < n) {g off m c : Nat} (hbv : bv = .slice (some ⟨g, off, none⟩) m c) {v v2 : Value} (hc : wr.cell? ⟨g, off + i, none⟩ = some v)
    (hk : Kept (fun b => v.ownBlock = some b) (wr.alloc o) w2) (ho : Own w2 3 1 v2 ((adjP n A)[i]'(by rw [adjP_length]; exact hi) ++ [j]).length (cellsOf encN ((adjP n A)[i]'(by rw [adjP_length]; exact hi) ++ [j]))) (hb2 : ∀ b, v2.ownBlock = some b → v.ownBlock = some b ∨ (wr.alloc o).heap.size ≤ b) :
    ∃ FB', CMI n na nc ua uc w (w2.setCell ⟨g, off + i, none⟩ v2) gv cv bv FB' (adjP n (A ++ [(i, j)])) := by
  have hi' : i < (adjP n A).length := by rw [adjP_length]; exact hi
  have hs := h.frame ((Kept.refl (fun _ => False) wr).alloc o) (fun _ h => h.elim)
  have hc' : (wr.alloc o).cell? ⟨g, off + i, none⟩ = some v := ((Kept.refl (fun _ => False) wr).alloc o).cell hc id
  obtain ⟨FB', r1, r2, r3⟩ := hs.ls.put hi' hbv hc' hk ho hb2
  rw [← adjP_snoc A hi'] at r1
  have z4 := heap_lt hs.c4
  have hne : ∀ b, b < (wr.alloc o).heap.size → (b ≤ w.heap.size + 1 + 1 ∨ b = w.heap.size + 3 + 1) → ¬ FB b := fun b _ hb hf => by have := hs.fb b hf; omega
  refine ⟨FB', (r2.block _ (heap_lt hs.cg) (hne _ (heap_lt hs.cg) (by omega))).trans hs.cg, (r2.block _ (heap_lt hs.c1) (hne _ (heap_lt hs.c1) (by omega))).trans hs.c1, (r2.block _ (heap_lt hs.c2) (hne _ (heap_lt hs.c2) (by omega))).trans hs.c2, (r2.block _ z4 (hne _ z4 (by omega))).trans hs.c4, r1, fun b hf => ?_, hs.kept.trans' r2 (fun i hi h => by have := hs.fb i h; omega)⟩
  rcases r3 b hf with h1 | h1
  · exact hs.fb b h1
  · omega

/-- The first walk's memory: the marks' box, the marks, what is finished. -/
structure SMI (L : List (List Nat)) (n : Nat) (na : Option Addr) (nc : Nat) (ua : Option Addr) (uc : Nat) (w wr : World) (bv : Value) (FB : Nat → Prop) (s0 k : Nat) (dv : Value) (S : Nat → Bool) (D : List Nat) : Prop where
  cm : CMI n na nc ua uc w wr (.slice none 0 0) (.int .i64 0) bv FB (backL L)
  box : wr.heap[s0 + 1]? = some (.cells #[.slice (some ⟨s0, 0, none⟩) n n] 60 (0, 0))
  lo : w.heap.size + 3 + 1 < s0
  fs : ¬ FB s0 ∧ ¬ FB (s0 + 1)
  seen : Own wr 4 1 (.slice (some ⟨s0, 0, none⟩) n n) n (marksB n S)
  done : Own wr 3 1 dv D.length (cellsOf encN D)
  db : ∀ b, dv.ownBlock = some b → w.heap.size + 3 + 1 < b ∧ ¬ FB b ∧ b ≠ s0 ∧ b ≠ s0 + 1
  run : Run (nxt L) (fun _ => False) (List.range k) D
  iff : ∀ x, S x = true ↔ x ∈ D
  cnt : D.length + um n S = n

theorem SMI.walked {L : List (List Nat)} {n : Nat} {na : Option Addr} {nc : Nat} {ua : Option Addr} {uc : Nat} {w wr w' : World} {bv : Value} {FB : Nat → Prop} {s0 k : Nat} {dv dv' : Value} {S S' : Nat → Bool} {D M : List Nat} (h : SMI L n na nc ua uc w wr bv FB s0 k dv S D)
    (hr : Run (nxt L) (fun x => S x = true) [k] M) (hS : ∀ x, S' x = true ↔ S x = true ∨ x ∈ M) (hc : M.length + um n S' = um n S) (hs : Own w' 4 1 (.slice (some ⟨s0, 0, none⟩) n n) n (marksB n S')) (hd : Own w' 3 1 dv' (D.length + M.length) (cellsOf encN (D ++ M)))
    (hk : Kept (fun b => (Value.slice (some ⟨s0, 0, none⟩) n n).ownBlock = some b ∨ dv.ownBlock = some b) wr w') (hn : ∀ b, dv'.ownBlock = some b → dv.ownBlock = some b ∨ wr.heap.size ≤ b) : SMI L n na nc ua uc w w' bv FB s0 (k + 1) dv' S' (D ++ M) := by
  have hbx := heap_lt h.box
  refine ⟨h.cm.frame hk (fun b hb => ?_), (hk.block _ hbx (fun hb => ?_)).trans h.box, h.lo, h.fs, hs, by simpa using hd, fun b hb => ?_, ?_, fun x => ?_, ?_⟩
  · rcases hb with hb | hb
    · simp [Value.ownBlock] at hb
      subst hb
      exact ⟨h.lo, h.fs.1⟩
    · exact ⟨(h.db b hb).1, (h.db b hb).2.1⟩
  · rcases hb with hb | hb
    · simp [Value.ownBlock] at hb
    · exact (h.db _ hb).2.2.2 rfl
  · rcases hn b hb with h1 | h1
    · exact h.db b h1
    · have := h.lo
      exact ⟨by omega, fun hf => by have := h.cm.ls.lt hf; omega, by omega, by omega⟩
  · rw [List.range_succ]
    exact h.run.append (hr.congr fun x => by rw [h.iff]; simp)
  · rw [hS, h.iff, List.mem_append]
  · have := h.cnt
    simp only [List.length_append]
    omega

/-- The second walk's memory: all that lies in blocks ahead of B. -/
structure GMI (L : List (List Nat)) (n : Nat) (na : Option Addr) (nc : Nat) (ua : Option Addr) (uc : Nat) (w wr : World) (bv : Value) (FB : Nat → Prop) (s0 g0 B : Nat) (dv : Value) (D : List Nat) (S : Nat → Bool) (gr : Nat → Nat) (c : Nat) : Prop where
  cm : CMI n na nc ua uc w wr (.slice (some ⟨g0, 0, none⟩) n n) (.int .i64 (c : Int)) bv FB (backL L)
  box : wr.heap[s0 + 1]? = some (.cells #[.slice (some ⟨s0, 0, none⟩) n n] 60 (0, 0))
  lo : w.heap.size + 3 + 1 < s0
  fs : ¬ FB s0 ∧ ¬ FB (s0 + 1)
  fg : ¬ FB g0 ∧ w.heap.size + 3 + 1 < g0 ∧ g0 ≠ s0 ∧ g0 ≠ s0 + 1
  seen : Own wr 4 1 (.slice (some ⟨s0, 0, none⟩) n n) n (marksB n S)
  grp : Own wr 3 1 (.slice (some ⟨g0, 0, none⟩) n n) n (cellsOf encN ((List.range n).map gr))
  db : ∀ b, dv.ownBlock = some b → w.heap.size + 3 + 1 < b ∧ ¬ FB b ∧ b ≠ s0 ∧ b ≠ s0 + 1 ∧ b ≠ g0
  hi : ∀ b, FB b → b < B
  top : s0 + 1 < B ∧ g0 < B ∧ w.heap.size + 3 + 1 < B

theorem GMI.frame {L : List (List Nat)} {n : Nat} {na : Option Addr} {nc : Nat} {ua : Option Addr} {uc : Nat} {w wr w' : World} {bv : Value} {FB G : Nat → Prop} {s0 g0 B : Nat} {dv : Value} {D : List Nat} {S : Nat → Bool} {gr : Nat → Nat} {c : Nat} (h : GMI L n na nc ua uc w wr bv FB s0 g0 B dv D S gr c) (hk : Kept G wr w') (hG : ∀ b, G b → B ≤ b) :
    GMI L n na nc ua uc w w' bv FB s0 g0 B dv D S gr c := by
  obtain ⟨t1, t2, t3⟩ := h.top
  refine ⟨h.cm.frame hk (fun b hb => ⟨by have := hG b hb; omega, fun hf => by have := hG b hb; have := h.hi b hf; omega⟩), (hk.block _ (heap_lt h.box) (fun hb => by have := hG _ hb; omega)).trans h.box, h.lo, h.fs, h.fg, h.seen.frame hk (fun b hb e => ?_), h.grp.frame hk (fun b hb e => ?_), h.db, h.hi, h.top⟩
  · simp [Value.ownBlock] at hb
    have := hG b e
    omega
  · simp [Value.ownBlock] at hb
    have := hG b e
    omega

/-- The marks turned. -/
theorem GMI.walked {L : List (List Nat)} {n : Nat} {na : Option Addr} {nc : Nat} {ua : Option Addr} {uc : Nat} {w wr w' : World} {bv : Value} {FB : Nat → Prop} {s0 g0 B : Nat} {dv : Value} {D : List Nat} {S S' : Nat → Bool} {gr : Nat → Nat} {c : Nat} (h : GMI L n na nc ua uc w wr bv FB s0 g0 B dv D S gr c)
    (hs : Own w' 4 1 (.slice (some ⟨s0, 0, none⟩) n n) n (marksB n S')) (hk : Kept (fun b => b = s0) wr w') : GMI L n na nc ua uc w w' bv FB s0 g0 B dv D S' gr c := by
  refine ⟨h.cm.frame hk (fun b hb => by subst hb; exact ⟨h.lo, h.fs.1⟩), (hk.block _ (heap_lt h.box) (by omega)).trans h.box, h.lo, h.fs, h.fg, hs, h.grp.frame hk (fun b hb e => ?_), h.db, h.hi, h.top⟩
  simp [Value.ownBlock] at hb
  subst hb
  exact h.fg.2.2.1 e

theorem cellsN_set {n k c : Nat} (gr : Nat → Nat) : (cellsOf encN ((List.range n).map gr)).set k (.int .i64 (c : Int)) = cellsOf encN ((List.range n).map fun y => if y = k then c else gr y) := by
  rw [cellsOf_encN, cellsOf_encN]
  apply List.ext_getElem (by simp)
  intro i h1 h2
  simp only [List.getElem_set, List.getElem_map, List.getElem_range]
  split
  · rename_i e; subst e; simp
  · rename_i e; simp [Ne.symm e]

/-- A thing numbered. -/
theorem GMI.number {L : List (List Nat)} {n : Nat} {na : Option Addr} {nc : Nat} {ua : Option Addr} {uc : Nat} {w wr : World} {bv : Value} {FB : Nat → Prop} {s0 g0 B : Nat} {dv : Value} {D : List Nat} {S : Nat → Bool} {gr : Nat → Nat} {c k : Nat} (h : GMI L n na nc ua uc w wr bv FB s0 g0 B dv D S gr c) (hk : k < n) :
    GMI L n na nc ua uc w (wr.setCell ⟨g0, k, none⟩ (.int .i64 (c : Int))) bv FB s0 g0 B dv D S (fun y => if y = k then c else gr y) c := by
  have hk' : Kept (fun b => b = g0) wr (wr.setCell ⟨g0, k, none⟩ (.int .i64 (c : Int))) := (Kept.refl (fun b => b = g0) wr).setCell (p := ⟨g0, k, none⟩) (fun _ => rfl) _
  have hset := h.grp.setAt (j := k) (by omega) (.int .i64 (c : Int))
  rw [Nat.zero_add, cellsN_set] at hset
  refine ⟨h.cm.frame hk' (fun b hb => by subst hb; exact ⟨h.fg.2.1, h.fg.1⟩), (hk'.block _ (heap_lt h.box) (fun e => h.fg.2.2.2 e.symm)).trans h.box, h.lo, h.fs, h.fg, h.seen.frame hk' (fun b hb e => ?_), hset, h.db, h.hi, h.top⟩
  simp [Value.ownBlock] at hb
  subst hb
  exact h.fg.2.2.1 e.symm

/-- One group more. -/
theorem GMI.more {L : List (List Nat)} {n : Nat} {na : Option Addr} {nc : Nat} {ua : Option Addr} {uc : Nat} {w wr : World} {bv : Value} {FB : Nat → Prop} {s0 g0 B : Nat} {dv : Value} {D : List Nat} {S : Nat → Bool} {gr : Nat → Nat} {c : Nat} (h : GMI L n na nc ua uc w wr bv FB s0 g0 B dv D S gr c) :
    GMI L n na nc ua uc w (wr.setCell ⟨w.heap.size + 1 + 1, 0, none⟩ (.int .i64 ((c + 1 : Nat) : Int))) bv FB s0 g0 B dv D S gr (c + 1) := by
  have hk' : Kept (fun b => b = w.heap.size + 1 + 1) wr (wr.setCell ⟨w.heap.size + 1 + 1, 0, none⟩ (.int .i64 ((c + 1 : Nat) : Int))) := (Kept.refl (fun b => b = w.heap.size + 1 + 1) wr).setCell (p := ⟨w.heap.size + 1 + 1, 0, none⟩) (fun _ => rfl) _
  have e2 := heap_set (o := 0) h.cm.c2 (.int .i64 ((c + 1 : Nat) : Int))
  refine ⟨⟨(hk'.block _ (heap_lt h.cm.cg) (by omega)).trans h.cm.cg, (hk'.block _ (heap_lt h.cm.c1) (by omega)).trans h.cm.c1, by simpa using e2, (hk'.block _ (heap_lt h.cm.c4) (by omega)).trans h.cm.c4, h.cm.ls.frame hk' (fun b hb e => by have := h.cm.fb b hb; omega), h.cm.fb, h.cm.kept.trans' hk' (fun i hi e => by omega)⟩, (hk'.block _ (heap_lt h.box) (by have := h.lo; omega)).trans h.box, h.lo, h.fs, h.fg, h.seen.frame hk' (fun b hb e => ?_), h.grp.frame hk' (fun b hb e => ?_), h.db, h.hi, h.top⟩
  · simp [Value.ownBlock] at hb
    have := h.lo
    omega
  · simp [Value.ownBlock] at hb
    have := h.fg.2.1
    omega

set_option maxRecDepth 100000 in
set_option maxHeartbeats 8000000 in
theorem circlesI {L : List (List Nat)} {n : Nat} (hn : L.length = n) (hn1 : n ≤ 100) (hL : ∀ x z, z ∈ nxt L x → z < n) (hLl : ∀ x, (nxt L x).length ≤ 1000) {w : World} {na : Option Addr} {nc : Nat} {uv : Value} {F : Nat → Prop} (hG : LsN w uv F L) (hnc : n ≤ nc) (hnm : nc ≤ maxLen) :
    Calls Try.prog 34 #[.agg #[.slice na n nc, uv]] w fun e w' => ∃ v gr c, e = .returned (.tuple #[v, .int .i64 ((c : Nat) : Int)]) ∧ Own w' 3 1 v n (cellsOf encN ((List.range n).map gr)) ∧ Kept (fun _ => False) w w' ∧ (∀ b, v.ownBlock = some b → w.heap.size ≤ b) ∧ Grp L n gr c := by
  obtain ⟨ua, uc, rfl, uu1, uu2, uu3⟩ := hG.shape
  rw [hn] at uu1 uu3 ⊢
  have HG := Lib.hid hG
  have HL := Lib.hid hL
  have HLL := Lib.hid hLl
  have HN := Lib.hid hn
  have HU3 := Lib.hid uu3
  have HFL : Hid (∀ b, F b → b < w.heap.size) := Lib.hid fun b hb => hG.lt hb
  have hn2 : nc ≤ 9223372036854775807 := by unfold maxLen at hnm; omega
  have hu2 : uc ≤ 9223372036854775807 := by unfold maxLen at uu2; omega
  obtain ⟨wA, hwA⟩ : ∃ wA, wA = ((w.alloc (.cells #[.slice na n nc, .slice ua n uc] 54)).alloc (.cells #[.slice none 0 0] 22)).alloc (.cells #[.int .i64 0] 3) := ⟨_, rfl⟩
  have hsA : wA.heap.size = w.heap.size + 3 := by rw [hwA]; simp
  have hA0 : wA.heap[w.heap.size]? = some (.cells #[.slice na n nc, .slice ua n uc] 54 (0, 0)) := by
    rw [hwA]; exact heap_alloc (heap_alloc (heap_alloc_new w _) _) _
  have hA1 : wA.heap[w.heap.size + 1]? = some (.cells #[.slice none 0 0] 22 (0, 0)) := by
    rw [hwA]
    have := heap_alloc_new (w.alloc (.cells #[.slice na n nc, .slice ua n uc] 54)) (.cells #[.slice none 0 0] 22)
    rw [World.size_alloc] at this
    exact heap_alloc this _
  have hA2 : wA.heap[w.heap.size + 2]? = some (.cells #[.int .i64 0] 3 (0, 0)) := by
    rw [hwA]
    have := heap_alloc_new ((w.alloc (.cells #[.slice na n nc, .slice ua n uc] 54)).alloc (.cells #[.slice none 0 0] 22)) (.cells #[.int .i64 0] 3)
    rw [World.size_alloc, World.size_alloc] at this
    exact this
  have hKA : Kept (fun _ => False) w wA := by rw [hwA]; exact (((Kept.refl _ w).alloc _).alloc _).alloc _
  obtain ⟨wm, hrun, hmo, hmk, hms⟩ := run_make_one slRows rfl wA n n (Nat.le_refl _) (by omega) (by unfold maxLen; omega)
  replace hrun := hrun _ _ rfl rfl
  rw [hsA] at hrun hmo hms
  rw [hwA] at hrun
  have hmsz : w.heap.size + 3 < wm.heap.size := by omega
  have e0 : wm.heap[w.heap.size]? = some (.cells #[.slice na n nc, .slice ua n uc] 54 (0, 0)) := (hmk.block _ (by omega) id).trans hA0
  have cm1 : wm.cell? ⟨w.heap.size, 1, none⟩ = some (.slice ua n uc) := cell_of e0 rfl
  have hCM : CMI n na nc ua uc w (wm.alloc (.cells #[.slice (some ⟨w.heap.size + 3, 0, none⟩) n n] 29)) (.slice none 0 0) (.int .i64 0) (.slice (some ⟨w.heap.size + 3, 0, none⟩) n n) (fun b => (Value.slice (some ⟨w.heap.size + 3, 0, none⟩) n n).ownBlock = some b) (adjP n (edg L 0)) := by
    rw [edg_zero, adjP_nil]
    have h4 := heap_alloc_new wm (.cells #[.slice (some ⟨w.heap.size + 3, 0, none⟩) n n] 29)
    rw [hms] at h4
    exact ⟨heap_alloc e0 _, heap_alloc ((hmk.block _ (by omega) id).trans hA1) _, heap_alloc ((hmk.block _ (by omega) id).trans hA2) _, h4, LsIs.made (hmo.alloc _), fun b hb => by simp [Value.ownBlock] at hb; omega, ((hKA.trans' hmk (fun _ _ h => h)).alloc _).mono (fun _ _ h => h.elim)⟩
  have HCM := Lib.hid hCM
  clear hG hL hLl hn uu3 hCM e0 hA0 hA1 hA2 hKA hmo hmk hwA
  refine (callsIn_wide (n := 3)).1 ?_
  refine callsIn_of_wp_marks Try.func34 rfl trivial ?_ rfl
  simp only [Try.ntmps34, List.size_toArray, List.length_cons, List.length_nil, Nat.reduceAdd, Nat.reduceSub, Array.replicate_succ, Array.replicate_zero, List.push_toArray, List.append_toArray, List.nil_append, List.cons_append]
  refine wpIn_wide.2 (wp_calm ?_)
  go_wp2_with fail
  generalize wm.alloc (.cells #[.slice (some ⟨w.heap.size + 3, 0, none⟩) n n] 29) = wB at HCM ⊢
  clear hrun cm1 hms hsA hmsz
  go_loopw [24] (fun i wr => ∃ k : Nat, k ≤ n ∧ i = .int .i64 k ∧ Hid (∃ FB, CMI n na nc ua uc w wr (.slice none 0 0) (.int .i64 0) (.slice (some ⟨w.heap.size + 3, 0, none⟩) n n) FB (adjP n (edg L k)))) (fun i _ => n - (intOf i).toNat)
  case atStart => exact ⟨0, Nat.zero_le _, rfl, Lib.hid ⟨_, HCM.out⟩⟩
  case round =>
    clear HCM
    obtain ⟨k, hk, rfl, hH⟩ := hrel
    obtain ⟨FB, hC⟩ := hH.out
    by_cases hlt : k < n
    · cases ua with
      | none => exact absurd (HU3.out rfl).1 (by omega)
      | some uad =>
        obtain ⟨rv, hrv⟩ := HG.out.rowAt (i := k) (by rw [HN.out]; exact hlt)
        have hY : nxt L k = L[k]'(by rw [HN.out]; exact hlt) := nxt_get _
        rw [← hY] at hrv
        obtain ⟨ug, uo, hz1, hz2, hua, hz3⟩ := HG.out.row (i := k) (by rw [HN.out]; exact hlt)
        clear hz3
        simp only [Value.slice.injEq, Option.some.injEq] at hua
        obtain ⟨rfl, hua2⟩ := hua
        have hgr : ∀ wx : World, Kept (fun b => w.heap.size ≤ b) w wx → wx.cell? ⟨ug, uo + k, none⟩ = some rv ∧ Own wx 3 1 rv (nxt L k).length (cellsOf encN (nxt L k)) := fun wx hk =>
          ⟨(hrv wx _ hk (fun b hb h => by have := HFL.out b hb; omega)).1 _ _ _ _ rfl, (hrv wx _ hk (fun b hb h => by have := HFL.out b hb; omega)).2⟩
        obtain ⟨ra, rc, rfl, q1, q2, q3⟩ := (hgr wr hC.kept).2.shape
        have r0 := (hgr wr hC.kept).1
        have HGR := Lib.hid (fun wx hk => (hgr wx hk).2)
        have HQ3 := Lib.hid q3
        have hq2 : (nxt L k).length ≤ 9223372036854775807 := by unfold maxLen at q2; omega
        have HLE : Hid (∀ z ∈ nxt L k, z < n) := Lib.hid fun z hz => HL.out k z hz
        have HLN : Hid ((nxt L k).length ≤ 1000 ∧ (edg L k).length ≤ 100000) := Lib.hid ⟨HLL.out k, by
          have := edg_len HLL.out k
          have : k * 1000 ≤ 100 * 1000 := Nat.mul_le_mul_right _ (by omega)
          omega⟩
        have HES := Lib.hid (edg_succ L k)
        have HC : Hid (∃ FB, CMI n na nc (some ⟨ug, uo, none⟩) uc w wr (.slice none 0 0) (.int .i64 0) (.slice (some ⟨w.heap.size + 3, 0, none⟩) n n) FB (adjP n (edg L k ++ ((nxt L k).take 0).map fun b => (b, k)))) := Lib.hid ⟨FB, by simpa using hC⟩
        obtain ⟨Y, hYe⟩ : ∃ Y, Y = nxt L k := ⟨_, rfl⟩
        rw [← hYe] at HGR HQ3 hq2 HLE HLN HES HC q1 r0
        clear hrv hgr hC hH q3 hY hYe hua2
        go_wp2_with fail
        clear r0
        go_loopw [31] (fun i wr => ∃ j : Nat, j ≤ Y.length ∧ i = .int .i64 j ∧ Hid (∃ FB, CMI n na nc (some ⟨ug, uo, none⟩) uc w wr (.slice none 0 0) (.int .i64 0) (.slice (some ⟨w.heap.size + 3, 0, none⟩) n n) FB (adjP n (edg L k ++ (Y.take j).map fun b => (b, k))))) (fun i _ => Y.length - (intOf i).toNat)
        case atStart => exact ⟨0, Nat.zero_le _, rfl, HC⟩
        case round =>
          clear HC
          obtain ⟨j, hj, rfl, hH⟩ := hrel
          obtain ⟨FB, hC⟩ := hH.out
          by_cases hltj : j < Y.length
          · obtain ⟨yg, yo, yc, hyv, _, _, ycl, _, _⟩ := (HGR.out wr hC.kept).elt (by omega)
            simp only [Value.slice.injEq, true_and] at hyv
            obtain ⟨rfl, rfl⟩ := hyv
            have y0 : wr.cell? ⟨yg, yo + j, none⟩ = some (.int .i64 (Y[j] : Int)) := ycl j _ (by rw [cellsOf_encN]; simp [hltj])
            have hzn := HLE.out _ (List.getElem_mem hltj)
            have hstp : (Y.take (j + 1)).map (fun b => (b, k)) = (Y.take j).map (fun b => (b, k)) ++ [(Y[j], k)] := by
              rw [List.take_succ_eq_append_getElem hltj, List.map_append]
              rfl
            have HSTP := Lib.hid hstp
            generalize Y[j] = z at y0 hzn HSTP
            have hlen : (edg L k ++ (Y.take j).map fun b => (b, k)).length ≤ 101000 := by
              have := HLN.out
              simp only [List.length_append, List.length_map, List.length_take]
              omega
            have hAA : edg L k ++ (Y.take (j + 1)).map (fun b => (b, k)) = (edg L k ++ (Y.take j).map fun b => (b, k)) ++ [(z, k)] := by rw [HSTP.out, List.append_assoc]
            have HAA := Lib.hid hAA
            generalize (edg L k ++ (Y.take j).map fun b => (b, k)) = A at hC hlen HAA
            have hil : z < (adjP n A).length := by rw [adjP_length]; exact hzn
            obtain ⟨g', off', cap', v, hgv, hq1, hq2', r0, rf0, ro, hFg, hggl, hvF, hvg⟩ := hC.ls.row hil
            clear hq1 hq2'
            simp only [Value.slice.injEq, Option.some.injEq, Addr.mk.injEq, true_and, and_true] at hgv
            obtain ⟨⟨rfl, rfl⟩, hgv2⟩ := hgv
            clear hgv2
            rw [Nat.zero_add] at r0 rf0
            have hrl := adjP_le (n := n) A z
            rw [nxt_get hil] at hrl
            have HPUT := Lib.hid (fun (o : Obj) (w2 : World) (v2 : Value) => hC.put (o := o) (w2 := w2) (v2 := v2) (j := k) hzn rfl (by rw [Nat.zero_add]; exact r0))
            generalize (adjP n A)[z] = R at ro hrl HPUT
            obtain ⟨va, vc, rfl, v1, v2, hv3⟩ := ro.shape
            have HRO := Lib.hid ro
            have HT : Hid (Fits (R.length + 1) 8) := Lib.hid (fits_of (by omega) (by decide))
            have c1 : wr.cell? ⟨w.heap.size + 3 + 1, 0, none⟩ = some (.slice (some ⟨w.heap.size + 3, 0, none⟩) n n) := cell_of hC.c4 rfl
            have hgbl := heap_lt hC.c4
            have hil2 : (z : Int) < (n : Int) := by omega
            have HV : Hid ((Value.slice va R.length vc).ownBlock ≠ some (w.heap.size + 3 + 1) ∧ (Value.slice va R.length vc).ownBlock ≠ some (w.heap.size + 3)) := Lib.hid ⟨fun hb => (hC.fb _ (hvF _ hb)).2 rfl, hvg⟩
            unfold maxLen at v2
            clear ro hFg hvF hvg hrl hil hC hH hAA hstp ycl hv3 hlen
            go_wp2_with fail
            -- the region
            go_region_law (first
              | (refine step_append slInt (v := .slice va R.length vc) (n := R.length) (m := 1) (xs := cellsOf encN R) (news := [.int .i64 (k : Int)]) rfl _ _ rfl rfl rfl ?_ ?_ ?_ HT.out ?_
                 · exact HRO.out.alloc _
                 · exact Own.rd (Own.fresh (n := 1) (by rfl) (by decide))
                 · simp [Value.oneCell']
                 intro x2 w2 hown2 hk2 hb2
                 obtain ⟨a2, c2, rfl, _, _, _⟩ := hown2.shape
                 have hk2' : Kept (fun b => (Value.slice va R.length vc).ownBlock = some b) (wr.alloc (.cells #[.int .i64 (k : Int)] 3)) w2 := ⟨hk2.os, hk2.tape, hk2.output, hk2.size, hk2.block⟩
                 have hb2' : ∀ b, (Value.slice a2 (R.length + 1) c2).ownBlock = some b → (Value.slice va R.length vc).ownBlock = some b ∨ (wr.alloc (.cells #[.int .i64 (k : Int)] 3)).heap.size ≤ b := hb2
                 have d1 : w2.cell? ⟨w.heap.size + 3 + 1, 0, none⟩ = some (.slice (some ⟨w.heap.size + 3, 0, none⟩) n n) := hk2'.cell (((Kept.refl (fun _ => False) wr).alloc _).cell c1 id) HV.out.1
                 have d2 : w2.cell? ⟨w.heap.size + 3, z, none⟩ = some (.slice va R.length vc) := hk2'.cell (((Kept.refl (fun _ => False) wr).alloc _).cell r0 id) HV.out.2
                 have df : w2.frozen? ⟨w.heap.size + 3, z, none⟩ = false := by
                   obtain ⟨o, ho⟩ : ∃ o, wr.heap[w.heap.size + 3]? = some o := ⟨_, Array.getElem?_eq_getElem hggl⟩
                   have h2 : w2.heap[w.heap.size + 3]? = some o := (hk2'.block (w.heap.size + 3) (by simp; omega) HV.out.2).trans (heap_alloc ho _)
                   have h3 : w2.frozen? ⟨w.heap.size + 3, z, none⟩ = wr.frozen? ⟨w.heap.size + 3, z, none⟩ := by simp [World.frozen?, h2, ho]
                   rw [h3]; exact rf0
                 have P := Lib.hid (HPUT.out (.cells #[.int .i64 (k : Int)] 3) w2 (.slice a2 (R.length + 1) c2) hk2' (by rw [cellsOf_append, List.length_append]; exact hown2) hb2')
                 clear hown2 hk2 hb2 hk2' hb2'))
            all_goals
              have Q : Hid (∃ FB, CMI n na nc (some ⟨ug, uo, none⟩) uc w (w2.setCell ⟨w.heap.size + 3, z, none⟩ (.slice a2 (R.length + 1) c2)) (.slice none 0 0) (.int .i64 0) (.slice (some ⟨w.heap.size + 3, 0, none⟩) n n) FB (adjP n (edg L k ++ (Y.take (j + 1)).map fun b => (b, k)))) := Lib.hid
                (by rw [HAA.out]; have := P.out; rw [Nat.zero_add] at this; exact this)
              clear P d1 d2 df c1 r0 rf0 HPUT
              go_wp2
              go_roundw
              case rel => exact ⟨j + 1, by omega, by go_num, Q⟩
              case measure => simp [intOf]; omega
            -- behind the region
          · obtain rfl : j = Y.length := by omega
            rw [List.take_length] at hC
            have Q : Hid (∃ FB, CMI n na nc (some ⟨ug, uo, none⟩) uc w wr (.slice none 0 0) (.int .i64 0) (.slice (some ⟨w.heap.size + 3, 0, none⟩) n n) FB (adjP n (edg L (k + 1)))) := Lib.hid (by rw [HES.out]; exact ⟨FB, hC⟩)
            clear hC hH hltj hj
            go_wp2
            go_roundw
            case rel => exact ⟨k + 1, by omega, by go_num, Q⟩
            case measure => simp [intOf]; omega
    · obtain rfl : k = n := by omega
      have hbk : adjP k (edg L k) = backL L := by unfold backL; rw [HN.out]
      rw [hbk] at hC
      have hsz := hC.kept.size
      have hc4 := heap_lt hC.c4
      have cn0 : wr.cell? ⟨w.heap.size, 0, none⟩ = some (.slice na k nc) := cell_of hC.cg rfl
      obtain ⟨w5, hrun5, hmo5, hmk5, hms5⟩ := run_make_one slBool rfl wr k k (Nat.le_refl _) (by omega) (by unfold maxLen; omega)
      replace hrun5 := hrun5 _ _ rfl rfl
      have e5 : w5.heap[w.heap.size]? = some (.cells #[.slice na k nc, .slice ua k uc] 54 (0, 0)) := (hmk5.block _ (heap_lt hC.cg) id).trans hC.cg
      have cn5 : w5.cell? ⟨w.heap.size, 0, none⟩ = some (.slice na k nc) := cell_of e5 rfl
      have cn6 : (w5.alloc (.cells #[.slice (some ⟨wr.heap.size, 0, none⟩) k k] 60)).cell? ⟨w.heap.size, 0, none⟩ = some (.slice na k nc) := cell_of (heap_alloc e5 _) rfl
      have hSM : SMI L k na nc ua uc w (w5.alloc (.cells #[.slice (some ⟨wr.heap.size, 0, none⟩) k k] 60)) (.slice (some ⟨w.heap.size + 3, 0, none⟩) k k) FB wr.heap.size 0 (.slice none 0 0) (fun _ => false) [] := by
        have hbx := heap_alloc_new w5 (.cells #[.slice (some ⟨wr.heap.size, 0, none⟩) k k] 60)
        rw [hms5] at hbx
        refine ⟨(hC.frame hmk5 (fun _ h => h.elim)).frame ((Kept.refl (fun _ => False) w5).alloc _) (fun _ h => h.elim), hbx, hc4, ⟨fun h => by have := hC.ls.lt h; omega, fun h => by have := hC.ls.lt h; omega⟩, ?_, Own.nil _ _ _, by simp [Value.ownBlock], .nil, by simp, ?_⟩
        · rw [marksB_false]
          exact hmo5.alloc _
        · simpa using um_none k
      have HSM := Lib.hid hSM
      clear hC hH hbk hmo5 hmk5 hSM hlt hk e5 hc4
      go_wp2_with fail
      generalize w5.alloc (.cells #[.slice (some ⟨wr.heap.size, 0, none⟩) k k] 60) = w6 at HSM ⊢
      generalize wr.heap.size = s0 at HSM hsz ⊢
      clear cn0 hrun5 hms5 cn5 cn6
      go_loopw [9, 54] (fun dv i wr => ∃ j : Nat, j ≤ k ∧ i = .int .i64 j ∧ ∃ da dc D, dv = .slice da (List.length D) dc ∧ Hid (∃ S, SMI L k na nc ua uc w wr (.slice (some ⟨w.heap.size + 3, 0, none⟩) k k) FB s0 j dv S D)) (fun _ i _ => k - (intOf i).toNat)
      case atStart => exact ⟨0, Nat.zero_le _, rfl, none, 0, [], rfl, Lib.hid ⟨_, HSM.out⟩⟩
      case round =>
        clear HSM
        obtain ⟨j, hj, rfl, da, dc, D, rfl, hH⟩ := hrel
        obtain ⟨S, hM⟩ := hH.out
        by_cases hlj : j < k
        · have cu := hM.cm.cg
          have c1 : wr.cell? ⟨w.heap.size, 1, none⟩ = some (.slice ua k uc) := cell_of cu rfl
          have cb : wr.cell? ⟨s0 + 1, 0, none⟩ = some (.slice (some ⟨s0, 0, none⟩) k k) := cell_of hM.box rfl
          have hDn : D.length ≤ k := by have := hM.cnt; omega
          have HM := Lib.hid hM
          have HLs := Lib.hid (HG.out.frame hM.cm.kept (fun b hb h => by have := HFL.out b hb; omega))
          rw [HN.out] at HLs
          have HLJ := Lib.hid hlj
          clear hM hH cu hlj
          go_wp2_with fail
          refine (walk5 HN.out hn1 HL.out HLJ.out HLs.out HM.out.seen hDn HM.out.done (fun b hb hf => by
            simp [Value.ownBlock] at hb
            have h1 := HFL.out b hf
            have h2 := HM.out.lo
            omega) (fun b hb => ⟨fun hf => by
            have h1 := HFL.out b hf
            have h2 := HM.out.db b hb
            omega, fun h => by
            simp [Value.ownBlock] at h
            exact (HM.out.db b hb).2.2.1 h.symm⟩)).mono ?_
          rintro e w7 ⟨dv', M, S', rfl, r1, r2, r3, r4, r5, r6, r7⟩
          obtain ⟨da', dc', rfl, t1, t2, t3⟩ := r5.shape
          have Q : Hid (SMI L k na nc ua uc w w7 (.slice (some ⟨w.heap.size + 3, 0, none⟩) k k) FB s0 (j + 1) (.slice da' (D.length + M.length) dc') S' (D ++ M)) := Lib.hid (HM.out.walked r1 r2 r3 r4 r5 r6 r7)
          clear r1 r2 r3 r4 r5 r6 r7 HM HLs c1 cb t1 t2 t3
          go_wp2
          go_roundw
          case rel => exact ⟨j + 1, by have := HLJ.out; omega, by go_num, da', dc', D ++ M, by simp, Lib.hid ⟨S', by simpa using Q.out⟩⟩
          case measure => have := HLJ.out; simp [intOf]; omega
        · obtain rfl : j = k := by omega
          have hall : ∀ x, x < j → x ∈ D := fun x hx => (hM.run.heads x (List.mem_range.2 hx)).resolve_left id
          have hDl : D.length = j := by
            have h1 := hM.cnt
            rw [um_all (fun x hx => (hM.iff x).2 (hall x hx))] at h1
            omega
          have hDn : ∀ x ∈ D, x < j := fun x hx => by
            obtain ⟨y, hy, hr⟩ := hM.run.from_heads x hx
            exact Reach.lt HL.out (List.mem_range.1 hy) hr.reach
          have cn0 : wr.cell? ⟨w.heap.size, 0, none⟩ = some (.slice na j nc) := cell_of hM.cm.cg rfl
          have hs1 := heap_lt hM.box
          obtain ⟨w8, hrun8, hmo8, hmk8, hms8⟩ := run_make_one slInt rfl wr j j (Nat.le_refl _) (by omega) (by unfold maxLen; omega)
          replace hrun8 := hrun8 _ _ rfl rfl
          have e1 : w8.heap[w.heap.size + 1]? = some (.cells #[.slice none 0 0] 22 (0, 0)) := (hmk8.block _ (heap_lt hM.cm.c1) id).trans hM.cm.c1
          have q1 : w8.cell? ⟨w.heap.size + 1, 0, none⟩ = some (.slice none 0 0) := cell_of e1 rfl
          have f1 : w8.frozen? ⟨w.heap.size + 1, 0, none⟩ = false := frozen_of e1
          obtain ⟨g0, hg0⟩ : ∃ g0, g0 = wr.heap.size := ⟨_, rfl⟩
          rw [← hg0] at hrun8 hmo8 hms8
          have hK8 : Kept (fun b => b = w.heap.size + 1) w8 (w8.setCell ⟨w.heap.size + 1, 0, none⟩ (.slice (some ⟨g0, 0, none⟩) j j)) := (Kept.refl (fun b => b = w.heap.size + 1) w8).setCell (p := ⟨w.heap.size + 1, 0, none⟩) (fun _ => rfl) _
          have hlo := hM.lo
          have hO9 : Own (w8.setCell ⟨w.heap.size + 1, 0, none⟩ (.slice (some ⟨g0, 0, none⟩) j j)) 4 1 (.slice (some ⟨s0, 0, none⟩) j j) j (marksB j S) := (hM.seen.frame hmk8 (fun _ _ => id)).frame hK8 (fun b hb e => by simp [Value.ownBlock] at hb; omega)
          have hB9 : (w8.setCell ⟨w.heap.size + 1, 0, none⟩ (.slice (some ⟨g0, 0, none⟩) j j)).heap[s0 + 1]? = some (.cells #[.slice (some ⟨s0, 0, none⟩) j j] 60 (0, 0)) := (hK8.block _ (by omega) (by omega)).trans ((hmk8.block _ hs1 id).trans hM.box)
          have cb9 : (w8.setCell ⟨w.heap.size + 1, 0, none⟩ (.slice (some ⟨g0, 0, none⟩) j j)).cell? ⟨s0 + 1, 0, none⟩ = some (.slice (some ⟨s0, 0, none⟩) j j) := cell_of hB9 rfl
          obtain ⟨w10, hclr, ho10, hk10, hs10⟩ := run_clear_all slBool rfl rfl 0 hO9
          have hsz9 : (w8.setCell ⟨w.heap.size + 1, 0, none⟩ (.slice (some ⟨g0, 0, none⟩) j j)).heap.size = g0 + 1 := by simp [hms8]
          rw [hsz9] at hs10
          have eA1 := heap_set (o := 0) e1 (.slice (some ⟨g0, 0, none⟩) j j)
          have c9 : CMI j na nc ua uc w (w8.setCell ⟨w.heap.size + 1, 0, none⟩ (.slice (some ⟨g0, 0, none⟩) j j)) (.slice (some ⟨g0, 0, none⟩) j j) (.int .i64 ((0 : Nat) : Int)) (.slice (some ⟨w.heap.size + 3, 0, none⟩) j j) FB (backL L) := by
            have c8 := hM.cm.frame hmk8 (fun _ h => h.elim)
            exact ⟨(hK8.block _ (heap_lt c8.cg) (by omega)).trans c8.cg, by simpa using eA1, (hK8.block _ (heap_lt c8.c2) (by omega)).trans c8.c2, (hK8.block _ (heap_lt c8.c4) (by omega)).trans c8.c4, c8.ls.frame hK8 (fun b hb e => by have := c8.fb b hb; omega), c8.fb, c8.kept.trans' hK8 (fun i hi e => by omega)⟩
          have hG10 : GMI L j na nc ua uc w w10 (.slice (some ⟨w.heap.size + 3, 0, none⟩) j j) FB s0 g0 (g0 + 2) (.slice da D.length dc) D (fun _ => false) (fun _ => 0) 0 := by
            have hgs : s0 + 1 < g0 := by omega
            refine ⟨c9.frame hk10 (fun b hb => by subst hb; exact ⟨hlo, hM.fs.1⟩), (hk10.block _ (by omega) (by omega)).trans hB9, hlo, hM.fs, ⟨fun hf => by have := hM.cm.ls.lt hf; omega, by omega, by omega, by omega⟩, by rw [marksB_false]; exact ho10, ?_, fun b hb => ?_, fun b hb => by have := hM.cm.ls.lt hb; omega, by omega, by omega, by omega⟩
            · have h1 := ((hmo8.frame hK8 (fun b hb e => by simp [Value.ownBlock] at hb; omega)).frame hk10 (fun b hb e => by simp [Value.ownBlock] at hb; omega))
              rw [cellsOf_encN, List.map_map]
              have h2 : (List.map ((fun (k : Nat) => Value.int .i64 (k : Int)) ∘ fun (_ : Nat) => 0) (List.range j)) = List.replicate j (.int .i64 0) := by
                apply List.ext_getElem (by simp)
                intro i h1 h2
                simp
              rw [h2]
              exact h1
            · have h1 := hM.db b hb
              have := hM.done.lt hb
              exact ⟨h1.1, h1.2.1, h1.2.2.1, h1.2.2.2, by omega⟩
          have hD10 : Own w10 3 1 (.slice da D.length dc) D.length (cellsOf encN D) := ((hM.done.frame hmk8 (fun _ _ => id)).frame hK8 (fun b hb e => by have := (hM.db b hb).1; omega)).frame hk10 (fun b hb e => (hM.db b hb).2.2.1 e)
          have HG10 := Lib.hid hG10
          have HD10 := Lib.hid hD10
          have HRUN := Lib.hid hM.run
          have HDN := Lib.hid hDn
          have HDL := Lib.hid hDl
          have HALL := Lib.hid hall
          have HS10 := Lib.hid hs10
          have HSL := Lib.hid (show s0 + 1 < g0 by omega)
          have HLO := Lib.hid hlo
          clear hM hH hall hDl hDn hs1 hmo8 hmk8 e1 hK8 hlo hO9 hB9 ho10 hk10 eA1 c9 hG10 hD10 hsz9 hs10 hlj hj
          rw [← hg0] at *
          go_wp2_with fail
          refine (backCall5 _ _ _ _).mono ?_
          rintro e w11 ⟨rfl, rfl⟩
          rw [HS10.out]
          clear cn0 hrun8 hms8 q1 f1 cb9 hclr
          go_wp2_with fail
          have hB1 : (w10.alloc (.cells #[.slice da D.length dc] 22)).heap.size = g0 + 2 := by simp [HS10.out]
          have hbx : (w10.alloc (.cells #[.slice da D.length dc] 22)).heap[g0 + 1]? = some (.cells #[.slice da D.length dc] 22 (0, 0)) := by
            have := heap_alloc_new w10 (.cells #[.slice da D.length dc] 22)
            rwa [HS10.out] at this
          have HG11 := Lib.hid (HG10.out.frame (G := fun b => g0 + 2 ≤ b) ((Kept.refl _ w10).alloc (.cells #[.slice da D.length dc] 22)) (fun b hb => hb))
          have HD11 := Lib.hid (HD10.out.alloc (.cells #[.slice da D.length dc] 22))
          have hKw : Kept (fun b => w.heap.size ≤ b) w (w10.alloc (.cells #[.slice da D.length dc] 22)) := HG11.out.cm.kept
          generalize w10.alloc (.cells #[.slice da D.length dc] 22) = w11 at HG11 HD11 hB1 hbx hKw ⊢
          obtain ⟨xv, hxv⟩ : ∃ xv : Fin j → Nat, ∀ (x : Fin j) (h : x.1 < D.length), xv x = D[x.1] := ⟨fun x => D[x.1]'(by rw [HDL.out]; exact x.2), fun x h => rfl⟩
          have hxn : ∀ x, xv x < j := fun x => by
            rw [hxv x (by rw [HDL.out]; exact x.2)]
            exact HDN.out _ (List.getElem_mem _)
          obtain ⟨b0, o0, hb0, ha0, hc0⟩ : ∃ b0 o0, (w.heap.size + 3 + 1 < b0 ∧ b0 ≠ s0 ∧ b0 ≠ g0 ∧ b0 < g0 + 2) ∧ (0 < j → da = some ⟨b0, o0, none⟩) ∧ ∀ x : Fin j, w11.cell? ⟨b0, o0 + x.1, none⟩ = some (.int .i64 (xv x : Int)) := by
            rcases Nat.eq_zero_or_pos j with h0 | hpos
            · subst h0
              have h1 := HSL.out
              have h2 := HLO.out
              exact ⟨g0 + 1, 0, by omega, fun h => absurd h (by omega), fun x => x.elim0⟩
            · obtain ⟨g, off, cap, hv, _, _, hcl, _, hg⟩ := HD11.out.elt (by rw [HDL.out]; exact hpos)
              have hdb := HG10.out.db g (by rw [hv]; simp [Value.ownBlock])
              simp only [Value.slice.injEq, true_and] at hv
              obtain ⟨rfl, _⟩ := hv
              refine ⟨g, off, ⟨hdb.1, hdb.2.2.1, hdb.2.2.2.2, by omega⟩, fun _ => rfl, fun x => ?_⟩
              have hx := x.2
              rw [hxv x (by rw [HDL.out]; exact hx)]
              exact hcl x.1 _ (by rw [cellsOf_encN]; simp [show x.1 < D.length by rw [HDL.out]; exact hx])
          have hcB : w11.cell? ⟨g0 + 1, 0, none⟩ = some (.slice da j dc) := by
            have := cell_of hbx (i := 0) rfl
            rwa [HDL.out] at this
          have HXV := Lib.hid hxv
          have HXN := Lib.hid hxn
          have HB0 := Lib.hid hb0
          have HBX := Lib.hid hbx
          have HKW := Lib.hid hKw
          refine (wpIn_wide (n := 3)).1 ?_
          refine wpIn_rangeFunc_ownH (F := Fence.wide) (n := 3) rfl (by omega) (gf := 49) (lb := #[.pointer (some ⟨g0 + 1, 0, none⟩)]) rfl trivial (enters_of Try.func49 (by kernel_rfl) rfl)
            (backStops5 Fence.wide 2 trivial rfl (by omega) (g0 + 1) b0 o0 j dc da ha0 xv w11 (by omega) (by omega) (by omega) hcB hc0)
            (fun h k => h.trans k) (fun W l o o' hl h1 h2 h3 => KeepB.put (by omega) (by omega) W l o o' hl h1 h2 h3) (Below.refl _ _) (fun _ => rfl)
            (fun pre W => ∃ S gr c, GMI L j na nc ua uc w W (.slice (some ⟨w.heap.size + 3, 0, none⟩) j j) FB s0 g0 (g0 + 2) (.slice da D.length dc) D S gr c ∧ c ≤ pre.length ∧ (pre = back5 j pre.length → GSt L j D pre.length S gr c))
            (fun _ _ _ => False)
            (fun s A B row hs hg hr => by
              obtain ⟨S, gr, c, h1, h2⟩ := hs
              exact ⟨S, gr, c, h1.frame (((Kept.refl (fun b => g0 + 2 ≤ b) A).grown hg (fun r e _ => by have := (hr r e).1; omega))) (fun b hb => hb), h2⟩)
            (fun c s A B row hs hg hr => hs)
            ⟨_, _, _, HG11.out, Nat.le_refl _, fun _ => GSt.start _ _ _ _⟩
            (fun x a' _ => a' = { tmps := #[.agg #[.slice na j nc, .slice ua j uc], .pointer (some ⟨w.heap.size, 0, none⟩), .pointer (some ⟨w.heap.size + 1, 0, none⟩), .pointer (some ⟨w.heap.size + 1 + 1, 0, none⟩), .pointer (some ⟨w.heap.size + 3 + 1, 0, none⟩), u5, u6, undef, u8,
              .slice da D.length dc, .pointer (some ⟨s0 + 1, 0, none⟩), u11, undef, .int .i64 (xv x : Int), undef, undef, undef, .pointer (some ⟨w.heap.size, 0, none⟩), .slice na j nc, .int .i64 (j : Int), .slice (some ⟨w.heap.size + 3, 0, none⟩) j j,
              .pointer (some ⟨w.heap.size, 1, none⟩), .slice ua j uc, .int .i64 (j : Int), .int .i64 (j : Int), .bool false, u26, u27, u28, u29, u30, u31, u32, u33, u34, u35, u36, u37, u38, u39, u40, u41, u42, u43, u44, u45, u46, .pointer (some ⟨w.heap.size, 0, none⟩),
              .slice na j nc, .int .i64 (j : Int), .slice (some ⟨s0, 0, none⟩) j j, .pointer (some ⟨w.heap.size, 0, none⟩), .slice na j nc, .int .i64 (j : Int), .int .i64 (j : Int), .bool false, u56, u57, u58, u59, u60, u61, u62, u63,
              .pointer (some ⟨w.heap.size, 0, none⟩), .slice na j nc, .int .i64 (j : Int), .slice (some ⟨g0, 0, none⟩) j j, .slice (some ⟨s0, 0, none⟩) j j, .slice da D.length dc, .func (.func 49) #[] #[.pointer (some ⟨g0 + 1, 0, none⟩)],
              .int .i64 (x.1 : Int), .int .i64 (xv x : Int), undef, undef, undef, undef, undef, undef, undef, undef, undef, undef, undef, undef, undef, undef, undef, undef, undef, undef, undef, undef, undef, undef, undef, undef, undef, undef], defers := [] })
            (fun x a' s A B row hs hg hr => hs)
            ?assign ?body ?done ?stop
          case assign =>
            rintro l pre x W K hI hK
            gi_wp2
            exact hK _ _ (KeepsFrom.refl _ _) (KeepB.refl _ _ _) hI rfl
          case body =>
            rintro l pre x a' W hl hr ⟨S, gr, c, hM, hcp, hst⟩ rfl hlt
            have c4 : W.cell? ⟨w.heap.size + 3 + 1, 0, none⟩ = some (.slice (some ⟨w.heap.size + 3, 0, none⟩) j j) := cell_of hM.cm.c4 rfl
            have cb : W.cell? ⟨s0 + 1, 0, none⟩ = some (.slice (some ⟨s0, 0, none⟩) j j) := cell_of hM.box rfl
            have hxi := HXN.out x
            have hbl : (backL L).length = j := by unfold backL; rw [adjP_length]; exact HN.out
            have HNX : Hid (∀ (M : List Nat) (S' : Nat → Bool), Run (nxt (backL L)) (fun y => S y = true) [xv x] M → (∀ y, S' y = true ↔ S y = true ∨ y ∈ M) → pre ++ [x] = back5 j (pre ++ [x]).length → GSt L j D (pre ++ [x]).length S' (grM gr M c) (if M = [] then c else c + 1)) := Lib.hid fun M S' h1 h2 h3 => by
              rw [List.length_append, List.length_singleton] at h3 ⊢
              rw [back5_succ hlt] at h3
              obtain ⟨h4, h5⟩ := List.append_inj' h3 rfl
              have h6 : x.1 = j - 1 - pre.length := by
                simp only [List.cons.injEq, and_true] at h5
                rw [h5]
              have hDL := HDL.out
              have h7 : D[D.length - 1 - pre.length]'(by omega) = xv x := by
                rw [HXV.out x (by omega)]
                congr 1
                omega
              refine (hst h4).next HN.out HL.out HRUN.out (by omega) ?_ h2 (by rw [h7]; exact hxi)
              rw [h7]
              exact h1
            have HWK := Lib.hid (walk5 hbl hn1 (fun y z hz => by rw [← HN.out]; exact back_lt hz) hxi hM.cm.ls hM.seen (D := []) (Nat.zero_le _) (Own.nil W 3 1) (fun b hb hf => by simp [Value.ownBlock] at hb; subst hb; exact hM.fs.1 hf) (fun b hb => by simp [Value.ownBlock] at hb))
            have HM := Lib.hid hM
            have HRL : Hid (∀ (M : List Nat), Run (nxt (backL L)) (fun y => S y = true) [xv x] M → M.length ≤ j ∧ ∀ y ∈ M, y < j) := Lib.hid fun M hM' => by
              have hlt : ∀ y ∈ M, y < j := fun y hy => by
                obtain ⟨z, hz, hr⟩ := hM'.from_heads y hy
                simp only [List.mem_singleton] at hz
                subst hz
                exact Reach.lt (fun a b hb => by rw [← HN.out]; exact back_lt hb) hxi hr.reach
              refine ⟨?_, hlt⟩
              have h2 := hM'.nodup.length_le_of_subset (l₂ := List.range j) (fun y hy => List.mem_range.2 (hlt y hy))
              simpa using h2
            have HCP := Lib.hid hcp
            have HPL := Lib.hid hlt
            generalize xv x = i at hxi HNX HWK HRL ⊢
            clear hM hst hcp hlt hbl
            gi_wp2_with fail
            refine ⟨trivial, ((callsIn_wide.2 HWK.out).inRound l).mono ?_⟩
            rintro e w7 ⟨rv, M, S', rfl, r1, r2, r3, r4, r5, r6, r7⟩
            simp only [List.length_nil, Nat.zero_add, List.nil_append] at r5
            obtain ⟨ra, rc, rfl, q1, q2, q3⟩ := r5.shape
            obtain ⟨hMj, hMl⟩ := HRL.out M r1
            have HNX2 := Lib.hid (HNX.out M S' r1 r2)
            have hk7 : Kept (fun b => b = s0) W w7 := r6.mono (fun b _ h => by
              rcases h with h | h
              · simp [Value.ownBlock] at h; exact h.symm
              · simp [Value.ownBlock] at h)
            have hr7 : ∀ b, (Value.slice ra M.length rc).ownBlock = some b → W.heap.size ≤ b := fun b hb => by
              rcases r7 b hb with h | h
              · simp [Value.ownBlock] at h
              · exact h
            have HR7 := Lib.hid hr7
            have hSW : g0 + 2 ≤ W.heap.size := by
              have h1 := HBX.out
              have h2 := heap_lt HM.out.box
              have h3 := hk7.size
              have h4 := hl
              obtain ⟨o, ho⟩ := hr
              have := heap_lt ho
              omega
            have H0 : Hid (GMI L j na nc ua uc w w7 (.slice (some ⟨w.heap.size + 3, 0, none⟩) j j) FB s0 g0 (g0 + 2) (.slice da D.length dc) D S' (grM gr (M.take 0) c) c ∧ Own w7 3 1 (.slice none 0 0) 0 (cellsOf encN (M.take 0)) ∧ Own w7 3 1 (.slice ra M.length rc) M.length (cellsOf encN M) ∧ Kept (fun b => b = s0 ∨ b = g0 ∨ b = w.heap.size + 1 + 1 ∨ W.heap.size ≤ b) W w7 ∧ ∀ b, (Value.slice none 0 0).ownBlock = some b → W.heap.size ≤ b ∧ (Value.slice ra M.length rc).ownBlock ≠ some b) :=
              Lib.hid ⟨by rw [List.take_zero, grM_nil]; exact HM.out.walked r4 hk7, by rw [List.take_zero]; exact Own.nil _ _ _, r5, hk7.mono (fun b _ h => .inl h), by simp [Value.ownBlock]⟩
            have HSW := Lib.hid hSW
            have HML := Lib.hid hMl
            have HRR := Lib.hid hr
            have hmm : M.length ≤ 9223372036854775807 := by omega
            clear r1 r2 r3 r4 r5 r6 r7 hk7 hr7 hSW hMl HWK HNX HRL c4 cb q3 hr
            gi_wp2_with fail
            gi_loopw [14, 79] (fun mv i wr => ∃ q : Nat, q ≤ M.length ∧ i = .int .i64 q ∧ ∃ ma mc, mv = .slice ma q mc ∧ Hid (GMI L j na nc ua uc w wr (.slice (some ⟨w.heap.size + 3, 0, none⟩) j j) FB s0 g0 (g0 + 2) (.slice da D.length dc) D S' (grM gr (M.take q) c) c ∧ Own wr 3 1 mv q (cellsOf encN (M.take q)) ∧ Own wr 3 1 (.slice ra M.length rc) M.length (cellsOf encN M) ∧ Kept (fun b => b = s0 ∨ b = g0 ∨ b = w.heap.size + 1 + 1 ∨ W.heap.size ≤ b) W wr ∧ ∀ b, mv.ownBlock = some b → W.heap.size ≤ b ∧ (Value.slice ra M.length rc).ownBlock ≠ some b)) (fun _ i _ => M.length - (intOf i).toNat)
            case atStart => exact ⟨0, Nat.zero_le _, rfl, none, 0, rfl, H0⟩
            case round =>
              clear H0
              obtain ⟨q, hq, rfl, ma, mc, rfl, hH⟩ := hrel
              obtain ⟨hG, hmv, hrv, hK, hmb⟩ := hH.out
              by_cases hlq : q < M.length
              · obtain ⟨rg, ro, rcap, hrvv, _, _, rcl, _, _⟩ := hrv.elt (by omega)
                simp only [Value.slice.injEq, true_and] at hrvv
                obtain ⟨rfl, rfl⟩ := hrvv
                have y0 : wr.cell? ⟨rg, ro + q, none⟩ = some (.int .i64 (M[q] : Int)) := rcl q _ (by rw [cellsOf_encN]; simp [hlq])
                have hkn := HML.out _ (List.getElem_mem hlq)
                have hst : M.take (q + 1) = M.take q ++ [M[q]] := List.take_succ_eq_append_getElem hlq
                have HST := Lib.hid hst
                generalize M[q] = z at y0 hkn HST
                have c1 : wr.cell? ⟨w.heap.size + 1, 0, none⟩ = some (.slice (some ⟨g0, 0, none⟩) j j) := cell_of hG.cm.c1 rfl
                have c2 : wr.cell? ⟨w.heap.size + 1 + 1, 0, none⟩ = some (.int .i64 (c : Int)) := cell_of hG.cm.c2 rfl
                obtain ⟨gg, go, gcap, hgv, _, _, gcl, gfz, _⟩ := hG.grp.elt (by omega)
                simp only [Value.slice.injEq, Option.some.injEq, Addr.mk.injEq, true_and, and_true] at hgv
                obtain ⟨⟨rfl, rfl⟩, hgv2⟩ := hgv
                have gc : wr.cell? ⟨g0, z, none⟩ = some (.int .i64 (grM gr (M.take q) c z : Int)) := by
                  have := gcl z (.int .i64 (grM gr (M.take q) c z : Int)) (by rw [cellsOf_encN]; simp [hkn])
                  rwa [Nat.zero_add] at this
                have gf : wr.frozen? ⟨g0, z, none⟩ = false := gfz _
                have hzi : (z : Int) < (j : Int) := by omega
                have hsz2 := hK.size
                have HNU := Lib.hid (hG.number hkn)
                have HSWo := HSW.out
                have hfg := hG.fg
                have hmd : (Value.slice ma q mc).ownBlock ≠ some g0 := fun hb => by have := (hmb _ hb).1; omega
                have hrd : (Value.slice (some ⟨rg, ro, none⟩) M.length rc).ownBlock ≠ some g0 := fun hb => by have := HR7.out _ hb; omega
                have HMV : Hid (Own (wr.setCell ⟨g0, z, none⟩ (.int .i64 (c : Int))) 3 1 (.slice ma q mc) q (cellsOf encN (M.take q))) := Lib.hid (hmv.setCell (p := ⟨g0, z, none⟩) hmd _)
                have HRV : Hid (Own (wr.setCell ⟨g0, z, none⟩ (.int .i64 (c : Int))) 3 1 (.slice (some ⟨rg, ro, none⟩) M.length rc) M.length (cellsOf encN M)) := Lib.hid (hrv.setCell (p := ⟨g0, z, none⟩) hrd _)
                have HK := Lib.hid (hK.setCell (p := ⟨g0, z, none⟩) (fun _ => .inr (.inl rfl)) (.int .i64 (c : Int)))
                have HMB := Lib.hid hmb
                have HT : Hid (Fits (q + 1) 8) := Lib.hid (fits_of (by omega) (by decide))
                clear hG hmv hrv hK hmb hH rcl gcl gfz hgv2 hst hfg hmd hrd hkn
                gi_wp2_with (first
                  | (gi_at_builtin
                     refine wpListIn_append slInt (v := .slice ma q mc) (vx := .slice (some ⟨wr.heap.size, 0, none⟩) 1 1) (news := cellsOf encN [z]) (m := 1) rfl _ _ rfl rfl rfl (HMV.out.alloc _) (by have := Own.fresh (w := wr.setCell ⟨g0, z, none⟩ (.int .i64 (c : Int))) (e := 3) (sz := 1) (n := 1) (cs := #[.int .i64 (z : Int)]) (by rfl) (by decide); simpa [cellsOf_encN_one] using this.rd) (oneN _) HT.out ?_
                     intro v9 w9 ho9 hk9 hb9
                     obtain ⟨a9, c9, rfl, _, _, _⟩ := ho9.shape))
                have Q : Hid (GMI L j na nc ua uc w w9 (.slice (some ⟨w.heap.size + 3, 0, none⟩) j j) FB s0 g0 (g0 + 2) (.slice da D.length dc) D S' (grM gr (M.take (q + 1)) c) c ∧ Own w9 3 1 (.slice a9 (q + 1) c9) (q + 1) (cellsOf encN (M.take (q + 1))) ∧ Own w9 3 1 (.slice (some ⟨rg, ro, none⟩) M.length rc) M.length (cellsOf encN M) ∧ Kept (fun b => b = s0 ∨ b = g0 ∨ b = w.heap.size + 1 + 1 ∨ W.heap.size ≤ b) W w9 ∧ ∀ b, (Value.slice a9 (q + 1) c9).ownBlock = some b → W.heap.size ≤ b ∧ (Value.slice (some ⟨rg, ro, none⟩) M.length rc).ownBlock ≠ some b) := Lib.hid (by
                  rw [HST.out, grM_snoc]
                  have h1 : GMI L j na nc ua uc w ((wr.setCell ⟨g0, z, none⟩ (.int .i64 (c : Int))).alloc (.cells #[.int .i64 (z : Int)] 3)) (.slice (some ⟨w.heap.size + 3, 0, none⟩) j j) FB s0 g0 (g0 + 2) (.slice da D.length dc) D S' (fun y => if y = z then c else grM gr (M.take q) c y) c := HNU.out.frame (G := fun b => g0 + 2 ≤ b) ((Kept.refl _ _).alloc _) (fun b hb => hb)
                  refine ⟨h1.frame hk9 (fun b hb => by have := (HMB.out b hb).1; omega), by rw [cellsOf_append]; exact ho9, (HRV.out.alloc _).frame hk9 (fun b hb e => (HMB.out b e).2 hb), (HK.out.alloc _).trans' hk9 (fun i hi e => .inr (.inr (.inr (HMB.out i e).1))), fun b hb => ?_⟩
                  rcases hb9 b hb with h2 | h2
                  · exact HMB.out b h2
                  · simp at h2
                    refine ⟨by omega, fun h3 => ?_⟩
                    have := HRV.out.lt h3
                    simp at this
                    omega)
                clear ho9 hk9 hb9
                go_roundw
                case rel => exact ⟨q + 1, by omega, by go_num, a9, c9, rfl, Q⟩
                case measure => simp [intOf]; omega
              · obtain rfl : q = M.length := by omega
                rw [List.take_length] at hG
                have hB0 := HB0.out
                have hSW := HSW.out
                have hsl := HSL.out
                have hlo := HLO.out
                have hKF : KeepsFrom w11.heap.size W wr := keepsFrom_of hK (fun b hb => by omega)
                have hKB : KeepB b0 (g0 + 1) W wr := keepB_of hK (by omega) (by omega) (by omega) (by omega)
                by_cases hM0 : M = []
                · have hml : M.length = 0 := by rw [hM0]; rfl
                  have hb : decide ((0 : Int) < (M.length : Int)) = false := decide_eq_false (by omega)
                  have Q : Hid (KeepsFrom w11.heap.size W wr ∧ KeepB b0 (g0 + 1) W wr ∧ ∃ S gr c, GMI L j na nc ua uc w wr (.slice (some ⟨w.heap.size + 3, 0, none⟩) j j) FB s0 g0 (g0 + 2) (.slice da D.length dc) D S gr c ∧ c ≤ (pre ++ [x]).length ∧ (pre ++ [x] = back5 j (pre ++ [x]).length → GSt L j D (pre ++ [x]).length S gr c)) := Lib.hid
                    ⟨hKF, hKB, S', grM gr M c, c, hG, by have := HCP.out; simp only [List.length_append]; omega, fun h => by have := HNX2.out h; rwa [if_pos hM0] at this⟩
                  clear hH hG hmv hrv hK hmb hKF hKB hB0 hSW hsl hlo hM0
                  gi_wp2
                  exact Q.out
                · have hml : 0 < M.length := List.length_pos_iff.2 hM0
                  have hb : decide ((0 : Int) < (M.length : Int)) = true := decide_eq_true (by omega)
                  have c2 : wr.cell? ⟨w.heap.size + 1 + 1, 0, none⟩ = some (.int .i64 (c : Int)) := cell_of hG.cm.c2 rfl
                  have f2 : wr.frozen? ⟨w.heap.size + 1 + 1, 0, none⟩ = false := frozen_of hG.cm.c2
                  have hc9 : c ≤ 9223372036854775806 := by have := HCP.out; have := HPL.out; omega
                  have hK2 : Kept (fun b => b = s0 ∨ b = g0 ∨ b = w.heap.size + 1 + 1 ∨ W.heap.size ≤ b) W (wr.setCell ⟨w.heap.size + 1 + 1, 0, none⟩ (.int .i64 ((c + 1 : Nat) : Int))) := hK.setCell (p := ⟨w.heap.size + 1 + 1, 0, none⟩) (fun _ => .inr (.inr (.inl rfl))) _
                  have Q : Hid (KeepsFrom w11.heap.size W (wr.setCell ⟨w.heap.size + 1 + 1, 0, none⟩ (.int .i64 ((c : Int) + 1))) ∧ KeepB b0 (g0 + 1) W (wr.setCell ⟨w.heap.size + 1 + 1, 0, none⟩ (.int .i64 ((c : Int) + 1))) ∧ ∃ S gr c', GMI L j na nc ua uc w (wr.setCell ⟨w.heap.size + 1 + 1, 0, none⟩ (.int .i64 ((c : Int) + 1))) (.slice (some ⟨w.heap.size + 3, 0, none⟩) j j) FB s0 g0 (g0 + 2) (.slice da D.length dc) D S gr c' ∧ c' ≤ (pre ++ [x]).length ∧ (pre ++ [x] = back5 j (pre ++ [x]).length → GSt L j D (pre ++ [x]).length S gr c')) := Lib.hid
                    ⟨keepsFrom_of hK2 (fun b hb => by omega), keepB_of hK2 (by omega) (by omega) (by omega) (by omega), S', grM gr M c, c + 1, hG.more, by have := HCP.out; simp only [List.length_append, List.length_singleton]; omega, fun h => by have := HNX2.out h; rwa [if_neg hM0] at this⟩
                  clear hH hG hmv hrv hK hmb hKF hKB hB0 hSW hsl hlo hM0 hK2
                  gi_wp2
                  exact Q.out
          case done =>
            rintro D' ys W hD' rfl ⟨S, gr, c, hM, hcp, hst⟩ hK
            have hl5 : (back5 j j).length = j := back5_length (Nat.le_refl _)
            rw [hl5] at hcp hst
            have hgst := hst rfl
            have hgrp : Grp L j gr c := GSt.done (by rw [HDL.out]; exact hgst) (fun x hx => HALL.out x hx) HDL.out
            have c1 : W.cell? ⟨w.heap.size + 1, 0, none⟩ = some (.slice (some ⟨g0, 0, none⟩) j j) := cell_of hM.cm.c1 rfl
            have c2 : W.cell? ⟨w.heap.size + 1 + 1, 0, none⟩ = some (.int .i64 (c : Int)) := cell_of hM.cm.c2 rfl
            have f1 : W.frozen? ⟨w.heap.size + 1, 0, none⟩ = false := frozen_of hM.cm.c1
            have f2 : W.frozen? ⟨w.heap.size + 1 + 1, 0, none⟩ = false := frozen_of hM.cm.c2
            have HM := Lib.hid hM
            have HGRP := Lib.hid hgrp
            have HDK := Lib.hid hK
            have HDD := Lib.hid hD'
            clear hM hgrp hgst hst hcp hK hD' hxv hxn hb0 ha0 hc0 hcB hl5
            have c3 : (W.setCell ⟨w.heap.size + 1, 0, none⟩ (.slice (some ⟨g0, 0, none⟩) j j)).cell? ⟨w.heap.size + 1 + 1, 0, none⟩ = some (.int .i64 (c : Int)) := (World.cell?_of_block (heap_set_ne (p := ⟨w.heap.size + 1, 0, none⟩) (by show w.heap.size + 1 + 1 ≠ w.heap.size + 1; omega) _)).trans c2
            dsimp only
            go_wp2_with fail
            go_region
            have hA1 := heap_set (o := 0) HM.out.cm.c1 (.slice (some ⟨g0, 0, none⟩) j j)
            have hA1' : ((W.setCell ⟨w.heap.size + 1, 0, none⟩ (.slice (some ⟨g0, 0, none⟩) j j)).setCell ⟨w.heap.size + 1 + 1, 0, none⟩ (.int .i64 (c : Int))).drew.heap[w.heap.size + 1]? = some (.cells #[.slice (some ⟨g0, 0, none⟩) j j] 22 (0, 0)) := (heap_set_ne (p := ⟨w.heap.size + 1 + 1, 0, none⟩) (by show w.heap.size + 1 ≠ w.heap.size + 1 + 1; omega) _).trans (by simpa using hA1)
            have hA2 : ((W.setCell ⟨w.heap.size + 1, 0, none⟩ (.slice (some ⟨g0, 0, none⟩) j j)).setCell ⟨w.heap.size + 1 + 1, 0, none⟩ (.int .i64 (c : Int))).drew.heap[w.heap.size + 1 + 1]? = some (.cells #[.int .i64 (c : Int)] 3 (0, 0)) := by
              have h1 := heap_set (o := 0) ((heap_set_ne (p := ⟨w.heap.size + 1, 0, none⟩) (by show w.heap.size + 1 + 1 ≠ w.heap.size + 1; omega) (.slice (some ⟨g0, 0, none⟩) j j)).trans HM.out.cm.c2) (.int .i64 (c : Int))
              have h2 : ∀ u : World, u.drew.heap = u.heap := fun _ => rfl
              rw [h2]; simpa using h1
            have hKE : Kept (fun b => b = w.heap.size + 1 ∨ b = w.heap.size + 1 + 1) W ((W.setCell ⟨w.heap.size + 1, 0, none⟩ (.slice (some ⟨g0, 0, none⟩) j j)).setCell ⟨w.heap.size + 1 + 1, 0, none⟩ (.int .i64 (c : Int))).drew :=
              (((Kept.refl _ W).setCell (p := ⟨w.heap.size + 1, 0, none⟩) (fun _ => .inl rfl) _).setCell (p := ⟨w.heap.size + 1 + 1, 0, none⟩) (fun _ => .inr rfl) _).drew
            have HA1 := Lib.hid hA1'
            have HA2 := Lib.hid hA2
            have HKE := Lib.hid hKE
            clear hA1 hA1' hA2 hKE c1 c2 c3 f1 f2
            generalize ((W.setCell ⟨w.heap.size + 1, 0, none⟩ (.slice (some ⟨g0, 0, none⟩) j j)).setCell ⟨w.heap.size + 1 + 1, 0, none⟩ (.int .i64 (c : Int))).drew = wE at HA1 HA2 HKE ⊢
            go_wp2
            have hdd := HDD.out
            have hlo := HLO.out
            have hsl := HSL.out
            have hDE : wE.heap[D']? = some (.deferred (some [])) := (HKE.out.block D' (heap_lt HDK.out) (by omega)).trans HDK.out
            change bodyPostM Fence.wide 3 Try.prog _ _ Exit.ret _ _
            refine ⟨by simp, .inl ⟨_, _, rfl, run_takeDeferred hDE, ?_⟩⟩
            have hKP := kept_putObj wE D' (.deferred none)
            have hB1 : (wE.putObj D' (.deferred none)).heap[w.heap.size + 1]? = some (.cells #[.slice (some ⟨g0, 0, none⟩) j j] 22 (0, 0)) := (hKP.block _ (heap_lt HA1.out) (by omega)).trans HA1.out
            have hB2 : (wE.putObj D' (.deferred none)).heap[w.heap.size + 1 + 1]? = some (.cells #[.int .i64 (c : Int)] 3 (0, 0)) := (hKP.block _ (heap_lt HA2.out) (by omega)).trans HA2.out
            have hfg := HM.out.fg
            have hO : Own (wE.putObj D' (.deferred none)) 3 1 (.slice (some ⟨g0, 0, none⟩) j j) j (cellsOf encN ((List.range j).map gr)) :=
              (HM.out.grp.frame HKE.out (fun b hb e => by simp [Value.ownBlock] at hb; omega)).frame hKP (fun b hb e => by simp [Value.ownBlock] at hb; omega)
            have hKF : Kept (fun _ => False) w (wE.putObj D' (.deferred none)) :=
              ((HM.out.cm.kept.trans' HKE.out (fun i hi e => by omega)).trans' hKP (fun i hi e => by omega)).mono (fun i hi e => by omega)
            generalize wE.putObj D' (.deferred none) = wF at hB1 hB2 hO hKF ⊢
            have z1 : wF.cell? ⟨w.heap.size + 1, 0, none⟩ = some (.slice (some ⟨g0, 0, none⟩) j j) := cell_of hB1 rfl
            have z2 : wF.cell? ⟨w.heap.size + 1 + 1, 0, none⟩ = some (.int .i64 (c : Int)) := cell_of hB2 rfl
            refine ⟨.tuple #[.slice (some ⟨g0, 0, none⟩) j j, .int .i64 (c : Int)], ?_, _, gr, c, rfl, hO, hKF, fun b hb => by simp [Value.ownBlock] at hb; omega, HGRP.out⟩
            simp [results, Try.results34, go_sem, z1, z2]
          case stop =>
            rintro D' cc pre W hD' hk' hF hK
            exact hF.elim

end Go.Proofs.Ytncloielmfplpaa
