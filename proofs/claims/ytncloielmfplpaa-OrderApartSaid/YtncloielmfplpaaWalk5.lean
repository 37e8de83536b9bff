/- order.walk: the depth-first walk. -/
import Derived.Test.YtncloielmfplpaaMem5
import Derived.Maps.OwnSet
import Derived.WalkSpells
import Derived.WalkLawsBesides
import Derived.Deep.QuietTactic
import Derived.Deep.RegionLaw
import Derived.Deep.LoopGhost
import Derived.BigQuiet
import Derived.StillTailTactics
import Derived.IntWalk
namespace Go.Proofs.Ytncloielmfplpaa
open Go.RowKit
set_option linter.unusedVariables false
set_option linter.unusedSimpArgs false

/-- The walk's memory in the midst: the path P, the marks S, what is finished M. -/
structure WMem (L : List (List Nat)) (n a0 : Nat) (S0 : Nat → Bool) (D : List Nat) (w wr : World) (sv dv0 : Value) (sb : Nat) (pv dv : Value) (P : List (Nat × Nat)) (S : Nat → Bool) (M : List Nat) : Prop where
  path : Own wr 95 2 pv P.length (cellsOf encP P)
  seen : Own wr 4 1 sv n (marksB n S)
  done : Own wr 3 1 dv (D.length + M.length) (cellsOf encN (D ++ M))
  kept : Kept (fun b => b = sb ∨ dv0.ownBlock = some b) w wr
  dnew : ∀ b, dv.ownBlock = some b → dv0.ownBlock = some b ∨ w.heap.size ≤ b
  pnew : ∀ b, pv.ownBlock = some b → w.heap.size ≤ b ∧ dv.ownBlock ≠ some b
  inv : WInv (nxt L) (fun x => S0 x = true) a0 S M P.reverse
  lt : ∀ p ∈ P, p.1 < n ∧ p.2 ≤ (nxt L p.1).length
  cnt : M.length + P.length + um n S = um n S0

section
variable {so sc : Nat} {L : List (List Nat)} {n a0 : Nat} {S0 : Nat → Bool} {D : List Nat} {w wr : World} {sv dv0 : Value} {sb : Nat} {pv dv : Value} {P : List (Nat × Nat)} {S : Nat → Bool} {M : List Nat}

theorem WMem.same {w' : World} (h : WMem L n a0 S0 D w wr sv dv0 sb pv dv P S M) (hk : Kept (fun _ => False) wr w') : WMem L n a0 S0 D w w' sv dv0 sb pv dv P S M :=
  ⟨h.path.frame hk (fun _ _ => id), h.seen.frame hk (fun _ _ => id), h.done.frame hk (fun _ _ => id), h.kept.trans' hk (fun _ _ h => h.elim), h.dnew, h.pnew, h.inv, h.lt, h.cnt⟩

/-- The top of the path. -/
theorem WMem.top {a k : Nat} (h : WMem L n a0 S0 D w wr sv dv0 sb pv dv (P ++ [(a, k)]) S M) :
    ∃ pb po pc, pv = .slice (some ⟨pb, po, none⟩) (P.length + 1) pc ∧ P.length + 1 ≤ pc ∧ pc ≤ maxLen ∧ wr.cell? ⟨pb, po + P.length * 2, none⟩ = some (.int .i64 (a : Int)) ∧ wr.cell? ⟨pb, po + P.length * 2 + 1, none⟩ = some (.int .i64 (k : Int)) ∧
      wr.frozen? ⟨pb, po + P.length * 2 + 1, none⟩ = false := by
  obtain ⟨pb, po, pc, h1, h2, h3, h4, h5, _⟩ := h.path.elt (by simp)
  have hl := cellsOf_encP_last P (a, k)
  simp only [List.length_append, List.length_cons, List.length_nil, Nat.zero_add] at h1 h2
  exact ⟨pb, po, pc, h1, h2, h3, h4 _ _ hl.1, by have := h4 _ _ hl.2; rwa [← Nat.add_assoc] at this, h5 _⟩

/-- A mark. -/
theorem WMem.mark {x : Nat} (h : WMem L n a0 S0 D w wr (.slice (some ⟨sb, so, none⟩) n sc) dv0 sb pv dv P S M) (hx : x < n) : wr.cell? ⟨sb, so + x, none⟩ = some (.bool (S x)) ∧ wr.frozen? ⟨sb, so + x, none⟩ = false := by
  obtain ⟨g, off, cap, hv, _, _, hc, hf, _⟩ := h.seen.elt (by omega)
  simp only [Value.slice.injEq, Option.some.injEq, Addr.mk.injEq, true_and, and_true] at hv
  obtain ⟨⟨rfl, rfl⟩, rfl⟩ := hv
  exact ⟨hc x _ (marksB_get S hx), hf _⟩

theorem WMem.bump {a k pb po pc : Nat} (h : WMem L n a0 S0 D w wr sv dv0 sb (.slice (some ⟨pb, po, none⟩) (P.length + 1) pc) dv (P ++ [(a, k)]) S M) :
    Own (wr.setCell ⟨pb, po + P.length * 2 + 1, none⟩ (.int .i64 ((k + 1 : Nat) : Int))) 95 2 (.slice (some ⟨pb, po, none⟩) (P.length + 1) pc) (P.length + 1) (cellsOf encP (P ++ [(a, k + 1)])) := by
  have hl : (P ++ [(a, k)]).length = P.length + 1 := by simp
  have hpath := h.path
  rw [hl] at hpath
  have hset := hpath.setAt (j := P.length * 2 + 1) (by omega) (.int .i64 ((k + 1 : Nat) : Int))
  rw [cellsOf_encP_set, ← Nat.add_assoc] at hset
  exact hset

/-- The top steps on to a thing that was met. -/
theorem WMem.skip {a k pb po pc : Nat} (h : WMem L n a0 S0 D w wr (.slice (some ⟨sb, so, none⟩) n sc) dv0 sb (.slice (some ⟨pb, po, none⟩) (P.length + 1) pc) dv (P ++ [(a, k)]) S M) (hB : sb < w.heap.size) (hk : k < (nxt L a).length) (hs : S (nxt L a)[k] = true) :
    WMem L n a0 S0 D w (wr.setCell ⟨pb, po + P.length * 2 + 1, none⟩ (.int .i64 ((k + 1 : Nat) : Int))) (.slice (some ⟨sb, so, none⟩) n sc) dv0 sb (.slice (some ⟨pb, po, none⟩) (P.length + 1) pc) dv (P ++ [(a, k + 1)]) S M := by
  have hpb : (Value.slice (some ⟨pb, po, none⟩) (P.length + 1) pc).ownBlock = some pb := by simp [Value.ownBlock]
  have hp := h.pnew pb hpb
  have hl : (P ++ [(a, k)]).length = P.length + 1 := by simp
  have hpath := h.path
  rw [hl] at hpath
  have hset := hpath.setAt (j := P.length * 2 + 1) (by omega) (.int .i64 ((k + 1 : Nat) : Int))
  rw [cellsOf_encP_set, ← Nat.add_assoc] at hset
  have hiv := h.inv
  rw [List.reverse_append] at hiv
  refine ⟨by simpa using hset, h.seen.setCell (p := ⟨pb, _, none⟩) (fun hb => by simp [Value.ownBlock] at hb; omega) _, h.done.setCell (p := ⟨pb, _, none⟩) hp.2 _, h.kept.setCell (p := ⟨pb, _, none⟩) (fun hb => absurd (show pb < w.heap.size from hb) (by have := hp.1; omega)) _, h.dnew, h.pnew, ?_, ?_, ?_⟩
  · rw [List.reverse_append]
    exact hiv.skip hk hs
  · intro p hp
    rcases List.mem_append.1 hp with hp | hp
    · exact h.lt p (by simp [hp])
    · simp only [List.mem_singleton] at hp
      subst hp
      exact ⟨(h.lt (a, k) (by simp)).1, hk⟩
  · have := h.cnt
    simp only [List.length_append, List.length_singleton] at this ⊢
    exact this

/-- The top steps on to a new thing. -/
theorem WMem.visit {a k to pb po pc : Nat} {pv2 : Value} {o : Obj} {w2 : World} (h : WMem L n a0 S0 D w wr (.slice (some ⟨sb, so, none⟩) n sc) dv0 sb (.slice (some ⟨pb, po, none⟩) (P.length + 1) pc) dv (P ++ [(a, k)]) S M) (hB : sb < w.heap.size) (hd : dv0.ownBlock ≠ some sb) (hk : k < (nxt L a).length) (hto : (nxt L a)[k] = to) (hs : S to = false) (hn : to < n)
    (hk2 : Kept (fun b => b = pb) (((wr.setCell ⟨pb, po + P.length * 2 + 1, none⟩ (.int .i64 ((k + 1 : Nat) : Int))).setCell ⟨sb, so + to, none⟩ (.bool true)).alloc o) w2) (ho2 : Own w2 95 2 pv2 (P.length + 1 + 1) (cellsOf encP (P ++ [(a, k + 1)]) ++ cellsOf encP [(to, 0)]))
    (hb2 : ∀ b, pv2.ownBlock = some b → b = pb ∨ wr.heap.size ≤ b) :
    WMem L n a0 S0 D w w2 (.slice (some ⟨sb, so, none⟩) n sc) dv0 sb pv2 dv (P ++ [(a, k + 1)] ++ [(to, 0)]) (setB S to) M := by
  subst hto
  have hpb : (Value.slice (some ⟨pb, po, none⟩) (P.length + 1) pc).ownBlock = some pb := by simp [Value.ownBlock]
  have hp := h.pnew pb hpb
  have hiv := h.inv
  rw [List.reverse_append] at hiv
  have hsb : sb ≠ pb := by have := hp.1; omega
  have hdsb : dv.ownBlock ≠ some sb := fun hb => (h.dnew sb hb).elim hd (fun h => by omega)
  have h1 : Own (wr.setCell ⟨pb, po + P.length * 2 + 1, none⟩ (.int .i64 ((k + 1 : Nat) : Int))) 4 1 (.slice (some ⟨sb, so, none⟩) n sc) n (marksB n S) := h.seen.setCell (p := ⟨pb, _, none⟩) (fun hb => by simp [Value.ownBlock] at hb; exact hsb hb) _
  have h2 := h1.setAt (j := (nxt L a)[k]) (by omega) (.bool true)
  rw [marksB_set] at h2
  have h3 := (h.done.setCell (p := ⟨pb, po + P.length * 2 + 1, none⟩) hp.2 (.int .i64 ((k + 1 : Nat) : Int))).setCell (p := ⟨sb, so + (nxt L a)[k], none⟩) hdsb (.bool true)
  have hkk : Kept (fun b => b = sb ∨ dv0.ownBlock = some b) w (((wr.setCell ⟨pb, po + P.length * 2 + 1, none⟩ (.int .i64 ((k + 1 : Nat) : Int))).setCell ⟨sb, so + (nxt L a)[k], none⟩ (.bool true)).alloc o) :=
    ((h.kept.setCell (p := ⟨pb, _, none⟩) (fun hb => absurd (show pb < w.heap.size from hb) (by have := hp.1; omega)) _).setCell (p := ⟨sb, _, none⟩) (fun _ => .inl rfl) _).alloc _
  have hsz := h.kept.size
  refine ⟨by rw [cellsOf_append]; simpa using ho2, (h2.alloc _).frame hk2 (fun b hb e => by simp [Value.ownBlock] at hb; omega), (h3.alloc _).frame hk2 (fun b hb e => by subst e; exact hp.2 hb), hkk.trans' hk2 (fun i hi e => by have := hp.1; omega), h.dnew, fun b hb => ?_, ?_, ?_, ?_⟩
  · rcases hb2 b hb with rfl | h1
    · exact hp
    · exact ⟨by omega, fun hb => by have := h.done.lt hb; omega⟩
  · rw [List.reverse_append, List.reverse_append]
    exact hiv.visit hk hs
  · intro p hp
    simp only [List.mem_append, List.mem_singleton] at hp
    rcases hp with (hp | rfl) | rfl
    · exact h.lt p (by simp [hp])
    · exact ⟨(h.lt (a, k) (by simp)).1, hk⟩
    · exact ⟨hn, Nat.zero_le _⟩
  · have := h.cnt
    have := um_set hn hs
    simp only [List.length_append, List.length_singleton] at *
    omega

/-- The top is finished. -/
theorem WMem.finish {a k pb po pc : Nat} {dv2 : Value} {o : Obj} {w2 : World} (h : WMem L n a0 S0 D w wr (.slice (some ⟨sb, so, none⟩) n sc) dv0 sb (.slice (some ⟨pb, po, none⟩) (P.length + 1) pc) dv (P ++ [(a, k)]) S M) (hB : sb < w.heap.size) (hd : dv0.ownBlock ≠ some sb) (hk : (nxt L a).length ≤ k)
    (hk2 : Kept (fun b => dv.ownBlock = some b) (wr.alloc o) w2) (ho2 : Own w2 3 1 dv2 (D.length + M.length + 1) (cellsOf encN (D ++ M) ++ cellsOf encN [a])) (hb2 : ∀ b, dv2.ownBlock = some b → dv.ownBlock = some b ∨ (wr.alloc o).heap.size ≤ b) :
    WMem L n a0 S0 D w w2 (.slice (some ⟨sb, so, none⟩) n sc) dv0 sb (.slice (some ⟨pb, po, none⟩) P.length pc) dv2 P S (M ++ [a]) := by
  have hpb : (Value.slice (some ⟨pb, po, none⟩) (P.length + 1) pc).ownBlock = some pb := by simp [Value.ownBlock]
  have hp := h.pnew pb hpb
  have hiv := h.inv
  rw [List.reverse_append] at hiv
  have hl : (P ++ [(a, k)]).length = P.length + 1 := by simp
  have hpath := h.path
  rw [hl] at hpath
  have hsub := hpath.sub (k := P.length) (by omega)
  rw [cellsOf_encP_take] at hsub
  have hdsb : ¬ dv.ownBlock = some sb := fun hb => (h.dnew sb hb).elim hd (fun h => by omega)
  refine ⟨(hsub.alloc _).frame hk2 (fun b hb e => ?_), (h.seen.alloc _).frame hk2 (fun b hb e => ?_), by rw [← List.append_assoc, cellsOf_append]; simpa [Nat.add_assoc] using ho2, (h.kept.alloc o).trans' hk2 (fun i hi e => ?_), fun b hb => ?_, fun b hb => ?_, hiv.finish hk, fun p hp => h.lt p (by simp [hp]), ?_⟩
  · simp [Value.ownBlock] at hb
    subst hb
    exact hp.2 e
  · simp [Value.ownBlock] at hb
    subst hb
    exact hdsb e
  · rcases h.dnew i e with h1 | h1
    · exact .inr h1
    · omega
  · rcases hb2 b hb with h1 | h1
    · exact h.dnew b h1
    · have := h.kept.size
      simp at h1
      exact .inr (by omega)
  · simp [Value.ownBlock] at hb
    subst hb
    refine ⟨hp.1, fun hb => ?_⟩
    rcases hb2 _ hb with h1 | h1
    · exact hp.2 h1
    · have := hpath.lt hpb
      simp at h1
      omega
  · have := h.cnt
    simp only [List.length_append, List.length_singleton] at *
    omega

end

set_option maxRecDepth 100000 in
set_option maxHeartbeats 4000000 in
theorem walk5 {L : List (List Nat)} {n a0 : Nat} (hn : L.length = n) (hn1 : n ≤ 100) (hL : ∀ x z, z ∈ nxt L x → z < n) (ha0 : a0 < n) {w : World} {nv : Value} {F : Nat → Prop} (hG : LsN w nv F L)
    {sv : Value} {S0 : Nat → Bool} (hs : Own w 4 1 sv n (marksB n S0)) {dv0 : Value} {D : List Nat} (hD : D.length ≤ n) (hd : Own w 3 1 dv0 D.length (cellsOf encN D)) (h1 : ∀ b, sv.ownBlock = some b → ¬ F b) (h2 : ∀ b, dv0.ownBlock = some b → ¬ F b ∧ sv.ownBlock ≠ some b) :
    Calls Try.prog 45 #[nv, .int .i64 a0, sv, dv0] w fun e w' => ∃ dv' M S, e = .returned dv' ∧ Run (nxt L) (fun x => S0 x = true) [a0] M ∧ (∀ x, S x = true ↔ S0 x = true ∨ x ∈ M) ∧ M.length + um n S = um n S0 ∧
      Own w' 4 1 sv n (marksB n S) ∧ Own w' 3 1 dv' (D.length + M.length) (cellsOf encN (D ++ M)) ∧ Kept (fun b => sv.ownBlock = some b ∨ dv0.ownBlock = some b) w w' ∧ ∀ b, dv'.ownBlock = some b → dv0.ownBlock = some b ∨ w.heap.size ≤ b := by
  subst hn
  obtain ⟨sb, so, sc, rfl, s1, s2, s3, s4, s5⟩ := hs.elt (by omega)
  obtain ⟨ng, noff, nc, hrw, rfl, nn1, nn2, hrw2⟩ := hG.row ha0
  clear hrw2 hrw
  obtain ⟨n, hne⟩ : ∃ n, n = L.length := ⟨_, rfl⟩
  rw [← hne] at hn1 ha0 hs hD s1 s3 nn1 hL hG h1 h2 ⊢
  have hn : L.length = n := hne.symm
  clear hne
  obtain ⟨da, dc, rfl, d1, d2, d3⟩ := hd.shape
  have c0 := s3 a0 _ (marksB_get S0 ha0)
  have f0 := s4 (so + a0)
  have HS := Lib.hid hs
  have HD := Lib.hid hd
  have HG := Lib.hid hG
  have H1 := Lib.hid h1
  have H2 := Lib.hid h2
  have HA := Lib.hid ha0
  have HLE := Lib.hid hn
  have HLL := Lib.hid hL
  have hai : (a0 : Int) < (n : Int) := by omega
  have HB : Hid (∀ b, (Value.slice (some ⟨sb, so, none⟩) n sc).ownBlock = some b ↔ b = sb) := Lib.hid fun b => by simp [Value.ownBlock, eq_comm]
  cases hS : S0 a0 with
  | true =>
    rw [hS] at c0
    have HSA := Lib.hid hS
    clear hs hd hG h1 h2 s3 s4 d3 hS ha0 hn hL
    go_enter Try.func45, Try.ntmps45
    go_wp2
    go_ret
    exact ⟨_, [], S0, rfl, .skip HSA.out .nil, by simp, by simp, HS.out, by simpa using HD.out, Kept.refl _ _, fun b h => .inl h⟩
  | false =>
    rw [hS] at c0
    have hset := hs.setAt (j := a0) (by omega) (.bool true)
    rw [marksB_set] at hset
    have hum := um_set ha0 hS
    have HUM := Lib.hid hum
    have HSA := Lib.hid hS
    have HSET := Lib.hid hset
    clear hs hd hG h1 h2 s3 s4 d3 hS ha0 hn hL hset hum
    go_enter Try.func45, Try.ntmps45
    go_wp2_with fail
    have hP0 : Own ((w.setCell ⟨sb, so + a0, none⟩ (.bool true)).alloc (.cells #[.int .i64 (a0 : Int), .int .i64 0] 95)) 95 2 (.slice (some ⟨w.heap.size, 0, none⟩) 1 1) 1 (cellsOf encP [(a0, 0)]) := by
      have := Own.fresh (w := w.setCell ⟨sb, so + a0, none⟩ (.bool true)) (e := 95) (sz := 2) (n := 1) (cs := #[.int .i64 (a0 : Int), .int .i64 0]) (by rfl) (by decide)
      simpa [cellsOf_encP_one] using this
    have hK0 : Kept (fun b => b = sb ∨ (Value.slice da D.length dc).ownBlock = some b) w ((w.setCell ⟨sb, so + a0, none⟩ (.bool true)).alloc (.cells #[.int .i64 (a0 : Int), .int .i64 0] 95)) :=
      ((Kept.refl _ w).setCell (p := ⟨sb, so + a0, none⟩) (fun _ => .inl rfl) _).alloc _
    have HM0 : Hid (WMem L n a0 S0 D w ((w.setCell ⟨sb, so + a0, none⟩ (.bool true)).alloc (.cells #[.int .i64 (a0 : Int), .int .i64 0] 95)) (.slice (some ⟨sb, so, none⟩) n sc) (.slice da D.length dc) sb (.slice (some ⟨w.heap.size, 0, none⟩) 1 1) (.slice da D.length dc) [(a0, 0)] (setB S0 a0) []) := Lib.hid
      ⟨hP0, HSET.out.alloc _, (HD.out.setCell (p := ⟨sb, so + a0, none⟩) (fun hb => (H2.out _ hb).2 (by simp [Value.ownBlock])) _).alloc _ |> fun h => by simpa using h, hK0, fun b h => .inl h,
        fun b hb => by
          simp [Value.ownBlock] at hb
          subst hb
          exact ⟨Nat.le_refl _, fun h => by have := HD.out.lt h; omega⟩,
        WInv.start (by simp [HSA.out]) (fun _ => Iff.rfl), by simp; exact HA.out, by have := HUM.out; simp; omega⟩
    clear hP0 hK0 c0 f0
    generalize (w.setCell ⟨sb, so + a0, none⟩ (.bool true)).alloc (.cells #[.int .i64 (a0 : Int), .int .i64 0] 95) = w1 at HM0 ⊢
    go_loopg [9, 3] (wmu n (nxt L) (setB S0 a0) [(a0, 0)]) (fun g pv dv wr => ∃ pa pc P da2 dc2 S M, pv = .slice pa (List.length P) pc ∧ dv = .slice da2 (D.length + List.length M) dc2 ∧ Hid (WMem L n a0 S0 D w wr (.slice (some ⟨sb, so, none⟩) n sc) (.slice da D.length dc) sb pv dv P S M ∧ wmu n (nxt L) S P.reverse = g))
    case atStart => exact ⟨_, _, [(a0, 0)], da, dc, _, [], rfl, rfl, HM0.out, rfl⟩
    case round =>
      clear HM0
      obtain ⟨pa, pc, P, da2, dc2, S, M, rfl, rfl, hH⟩ := hrel
      obtain ⟨hM, hg⟩ := hH.out
      rcases List.eq_nil_or_concat P with rfl | ⟨P, ⟨a, k⟩, rfl⟩
      · have HM := Lib.hid hM
        clear hH hM hg
        simp only [List.length_nil]
        go_wp2
        go_ret
        obtain ⟨r1, r2⟩ := HM.out.inv.done
        exact ⟨_, M, S, rfl, r1, r2, by have := HM.out.cnt; simpa using this, HM.out.seen, HM.out.done, HM.out.kept.mono (fun b _ h => h.imp (fun h => (HB.out b).2 h) id), HM.out.dnew⟩
      · rw [List.concat_eq_append] at hM hg ⊢
        have hHM := hM
        obtain ⟨pb, po, pc', hpv, p1, p2, t0, t1, tf⟩ := hM.top
        rw [List.length_append, List.length_singleton] at hpv hHM ⊢
        simp only [Value.slice.injEq, true_and] at hpv
        obtain ⟨rfl, rfl⟩ := hpv
        have hpl : P.length ≤ 9223372036854775806 := by unfold maxLen at p2; omega
        have hm2 : (P.length : Int) < (P.length : Int) + 1 := by omega
        have hm3 : (0 : Int) < (P.length : Int) + 1 := by omega
        obtain ⟨hak, hkk⟩ := hHM.lt (a, k) (by simp)
        dsimp only at hak hkk
        obtain ⟨rv, hrv⟩ := HG.out.rowAt (i := a) (by rw [HLE.out]; exact hak)
        have hY : nxt L a = L[a]'(by rw [HLE.out]; exact hak) := nxt_get _
        rw [← hY] at hrv
        have hdj : ∀ b, F b → ¬ (b = sb ∨ (Value.slice da D.length dc).ownBlock = some b) := fun b hf h => by
          rcases h with rfl | h
          · exact H1.out b ((HB.out b).2 rfl) hf
          · exact (H2.out b h).1 hf
        have hgr : ∀ wx : World, Kept (fun b => b = sb ∨ (Value.slice da D.length dc).ownBlock = some b) w wx → wx.cell? ⟨ng, noff + a, none⟩ = some rv ∧ Own wx 3 1 rv (nxt L a).length (cellsOf encN (nxt L a)) := fun wx hk =>
          ⟨(hrv wx _ hk hdj).1 _ _ _ _ rfl, (hrv wx _ hk hdj).2⟩
        obtain ⟨ra, rc, rfl, q1, q2, q3⟩ := (hgr wr hHM.kept).2.shape
        have HGR := Lib.hid hgr
        have HM := Lib.hid hHM
        have r0 := (hgr wr hHM.kept).1
        have hai2 : (a : Int) < (n : Int) := by omega
        have HG' := Lib.hid hg
        have HSB := Lib.hid s5
        have HDS : Hid ((Value.slice da D.length dc).ownBlock ≠ some sb) := Lib.hid (fun hb => (H2.out sb hb).2 ((HB.out sb).2 rfl))
        clear hrv hdj hgr hH hM hHM hg tf
        by_cases hkl : k < (nxt L a).length
        · have hb : ((k : Int) == ((nxt L a).length : Int)) = false := beq_eq_false_iff_ne.2 (by omega)
          have hz : ∀ wx : World, Own wx 3 1 (.slice ra (nxt L a).length rc) (nxt L a).length (cellsOf encN (nxt L a)) → ∃ g off, ra = some ⟨g, off, none⟩ ∧ wx.cell? ⟨g, off + k, none⟩ = some (.int .i64 ((nxt L a)[k] : Int)) := fun wx ho => by
            obtain ⟨g, off, cap, hv, _, _, hc, _, _⟩ := ho.elt (by omega)
            simp only [Value.slice.injEq] at hv
            exact ⟨g, off, hv.1, hc k _ (by rw [cellsOf_encN]; simp [hkl])⟩
          obtain ⟨g, off, rfl, hz0⟩ := hz wr (HGR.out wr HM.out.kept).2
          have HZ : Hid (∀ wx : World, Kept (fun b => b = sb ∨ (Value.slice da D.length dc).ownBlock = some b) w wx → wx.cell? ⟨g, off + k, none⟩ = some (.int .i64 ((nxt L a)[k] : Int))) := Lib.hid fun wx hk => by
            obtain ⟨g', off', e, h⟩ := hz wx (HGR.out wx hk).2
            simp only [Option.some.injEq, Addr.mk.injEq, and_true] at e
            obtain ⟨rfl, rfl⟩ := e
            exact h
          have HTO := Lib.hid (HLL.out a _ (List.getElem_mem hkl))
          have HE : Hid (∃ h : k < (nxt L a).length, (nxt L a)[k] = (nxt L a)[k]) := Lib.hid ⟨hkl, rfl⟩
          obtain ⟨to, hto⟩ : ∃ to, to = (nxt L a)[k] := ⟨_, rfl⟩
          rw [← hto] at HZ HTO
          have HTE : Hid (∃ h : k < (nxt L a).length, (nxt L a)[k] = to) := Lib.hid ⟨hkl, hto.symm⟩
          have HQ3 := Lib.hid q3
          have hkb : (k : Int) < ((nxt L a).length : Int) := by omega
          have hkl2 : k ≤ 9223372036854775806 := by unfold maxLen at q2; omega
          have hk1 : IntKind.i64.wrap ((k : Int) + 1) = (k : Int) + 1 := IntWalk.i64_in _ (by omega)
          have HKL := Lib.hid hkl
          generalize (nxt L a).length = len at hb hkb q1 HQ3 r0 HGR
          clear hz hz0 hto q3 HE hkl hY hkk
          go_wp2_with fail
          go_quiet (fail)
          have HM2 : Hid (WMem L n a0 S0 D w (wr.drewN nq) (.slice (some ⟨sb, so, none⟩) n sc) (.slice da D.length dc) sb (.slice (some ⟨pb, po, none⟩) (P.length + 1) pc) (.slice da2 (D.length + M.length) dc2) (P ++ [(a, k)]) S M) := Lib.hid (HM.out.same ((Kept.refl (fun _ => False) wr).drewN nq))
          clear HM t0 t1 r0
          generalize wr.drewN nq = wd at HM2 ⊢
          obtain ⟨_, _, _, hv, _, _, t0, t1, tf⟩ := HM2.out.top
          simp only [Value.slice.injEq, Option.some.injEq, Addr.mk.injEq, true_and, and_true] at hv
          obtain ⟨⟨rfl, rfl⟩, rfl⟩ := hv
          have r0 := (HGR.out wd HM2.out.kept).1
          have z0 := HZ.out wd HM2.out.kept
          go_wp2_with fail
          go_quiet (fail)
          have HM3 : Hid (WMem L n a0 S0 D w (wd.drewN nq) (.slice (some ⟨sb, so, none⟩) n sc) (.slice da D.length dc) sb (.slice (some ⟨pb, po, none⟩) (P.length + 1) pc) (.slice da2 (D.length + M.length) dc2) (P ++ [(a, k)]) S M) := Lib.hid (HM2.out.same ((Kept.refl (fun _ => False) wd).drewN nq))
          clear HM2 t0 t1 tf r0 z0
          generalize wd.drewN nq = we at HM3 ⊢
          obtain ⟨_, _, _, hv, _, _, _, t1, tf⟩ := HM3.out.top
          simp only [Value.slice.injEq, Option.some.injEq, Addr.mk.injEq, true_and, and_true] at hv
          obtain ⟨⟨rfl, rfl⟩, rfl⟩ := hv
          obtain ⟨m0, mf0⟩ := HM3.out.mark HTO.out
          have hps : sb ≠ pb := by
            have := (HM3.out.pnew pb (by simp [Value.ownBlock])).1
            have := HSB.out
            omega
          have m1 : (we.setCell ⟨pb, po + P.length * 2 + 1, none⟩ (.int .i64 ((k : Int) + 1))).cell? ⟨sb, so + to, none⟩ = some (.bool (S to)) := (World.cell?_of_block (heap_set_ne (p := ⟨pb, po + P.length * 2 + 1, none⟩) hps _)).trans m0
          have mf1 : (we.setCell ⟨pb, po + P.length * 2 + 1, none⟩ (.int .i64 ((k : Int) + 1))).frozen? ⟨sb, so + to, none⟩ = false := by
            rw [World.frozen?_setCell]
            exact mf0
          cases hSt : S to with
          | true =>
            rw [hSt] at m1
            have Q : Hid (WMem L n a0 S0 D w (we.setCell ⟨pb, po + P.length * 2 + 1, none⟩ (.int .i64 ((k : Int) + 1))) (.slice (some ⟨sb, so, none⟩) n sc) (.slice da D.length dc) sb (.slice (some ⟨pb, po, none⟩) (P.length + 1) pc) (.slice da2 (D.length + M.length) dc2) (P ++ [(a, k + 1)]) S M) :=
              Lib.hid (HM3.out.skip HSB.out HKL.out (by obtain ⟨h, e⟩ := HTE.out; rw [e]; exact hSt))
            clear HM3 m0 mf0 hSt
            go_wp2
            go_roundg (wmu n (nxt L) S (P ++ [(a, k + 1)]).reverse)
            case measure =>
              rw [← HG'.out, List.reverse_append, List.reverse_append]
              exact wmu_skip HKL.out
            case rel => exact ⟨some ⟨pb, po, none⟩, pc, P ++ [(a, k + 1)], da2, dc2, S, M, by simp, rfl, Lib.hid ⟨by simpa using Q.out, rfl⟩⟩
          | false =>
            rw [hSt] at m1
            have OA : Hid (Own ((we.setCell ⟨pb, po + P.length * 2 + 1, none⟩ (.int .i64 ((k : Int) + 1))).setCell ⟨sb, so + to, none⟩ (.bool true)) 95 2 (.slice (some ⟨pb, po, none⟩) (P.length + 1) pc) (P.length + 1) (cellsOf encP (P ++ [(a, k + 1)]))) :=
              Lib.hid (Own.setCell (p := ⟨sb, so + to, none⟩) HM3.out.bump (fun hb => by simp [Value.ownBlock] at hb; exact hps hb.symm) _)
            have HT : Hid (Fits (P.length + 1 + 1) 16) := Lib.hid (fits_of (by
              have h1 := HM3.out.cnt
              have h2 := um_le n S0
              simp only [List.length_append, List.length_singleton] at h1
              omega) (by decide))
            have HST := Lib.hid hSt
            clear m0 mf0 hSt
            go_wp2_with (first
              | (at_builtin
                 refine wpList_append slStep (v := .slice (some ⟨pb, po, none⟩) (P.length + 1) pc) (vx := .slice (some ⟨we.heap.size, 0, none⟩) 1 1) (news := cellsOf encP [(to, 0)]) (m := 1) rfl _ _ rfl rfl rfl (OA.out.alloc _) (by have := Own.fresh (w := ((we.setCell ⟨pb, po + P.length * 2 + 1, none⟩ (.int .i64 ((k : Int) + 1))).setCell ⟨sb, so + to, none⟩ (.bool true))) (e := 95) (sz := 2) (n := 1) (cs := #[.int .i64 (to : Int), .int .i64 0]) (by rfl) (by decide); simpa [cellsOf_encP_one] using this.rd) (by simp [cellsOf_encP_one, Value.oneCell']) HT.out ?_
                 intro v7 w7 ho7 hk7 hb7 _
                 obtain ⟨a7, c7, rfl, _, _, _⟩ := ho7.shape))
            have Q : Hid (WMem L n a0 S0 D w w7 (.slice (some ⟨sb, so, none⟩) n sc) (.slice da D.length dc) sb (.slice a7 (P.length + 1 + 1) c7) (.slice da2 (D.length + M.length) dc2) (P ++ [(a, k + 1)] ++ [(to, 0)]) (setB S to) M) :=
              Lib.hid (HM3.out.visit HSB.out HDS.out HKL.out (by obtain ⟨h, e⟩ := HTE.out; exact e) HST.out HTO.out (hk7.mono (fun b _ hb => by simp [Value.ownBlock] at hb; exact hb.symm)) ho7 (fun b hb => by
                rcases hb7 b hb with h | h
                · simp [Value.ownBlock] at h
                  exact .inl h.symm
                · simp at h
                  exact .inr (by omega)))
            clear ho7 hk7 hb7
            go_roundg (wmu n (nxt L) (setB S to) (P ++ [(a, k + 1)] ++ [(to, 0)]).reverse)
            case measure =>
              rw [← HG'.out, List.reverse_append, List.reverse_append, List.reverse_append]
              obtain ⟨h, e⟩ := HTE.out
              have h3 := wmu_visit (n := n) (nx := nxt L) (path := P.reverse) (S := S) h (by rw [e]; exact HST.out) (by rw [e]; exact HTO.out)
              rw [e] at h3
              exact h3
            case rel => exact ⟨a7, c7, P ++ [(a, k + 1)] ++ [(to, 0)], da2, dc2, setB S to, M, by simp, rfl, Lib.hid ⟨by simpa using Q.out, rfl⟩⟩
        · have hke : k = (nxt L a).length := by omega
          have hb : ((k : Int) == ((nxt L a).length : Int)) = true := beq_iff_eq.2 (by omega)
          have HKE : Hid ((nxt L a).length ≤ k) := Lib.hid (by omega)
          have HT : Hid (Fits (D.length + M.length + 1) 8) := Lib.hid (fits_of (by
            have h1 := HM.out.cnt
            have h2 := um_le n S0
            simp only [List.length_append, List.length_singleton] at h1
            omega) (by decide))
          have HQ3 := Lib.hid q3
          generalize (nxt L a).length = len at hb q1 HQ3 r0 HGR
          clear q3 hkl hY hkk hke
          go_wp2_with fail
          go_quiet (fail)
          have HM2 : Hid (WMem L n a0 S0 D w (wr.drewN nq) (.slice (some ⟨sb, so, none⟩) n sc) (.slice da D.length dc) sb (.slice (some ⟨pb, po, none⟩) (P.length + 1) pc) (.slice da2 (D.length + M.length) dc2) (P ++ [(a, k)]) S M) := Lib.hid (HM.out.same ((Kept.refl (fun _ => False) wr).drewN nq))
          clear HM t0 t1 r0
          generalize wr.drewN nq = wd at HM2 ⊢
          obtain ⟨_, _, _, hv, _, _, t0, _, _⟩ := HM2.out.top
          simp only [Value.slice.injEq, Option.some.injEq, Addr.mk.injEq, true_and, and_true] at hv
          obtain ⟨⟨rfl, rfl⟩, rfl⟩ := hv
          go_wp2_with (first
            | (at_builtin
               refine wpList_append slInt (v := .slice da2 (D.length + M.length) dc2) (vx := .slice (some ⟨wd.heap.size, 0, none⟩) 1 1) (news := cellsOf encN [a]) (m := 1) rfl _ _ rfl rfl rfl (HM2.out.done.alloc _) (Own.rd (Own.fresh (n := 1) (by rfl) (by decide))) (oneN _) HT.out ?_
               intro v7 w7 ho7 hk7 hb7 _
               obtain ⟨a7, c7, rfl, _, _, _⟩ := ho7.shape))
          have Q : Hid (WMem L n a0 S0 D w w7 (.slice (some ⟨sb, so, none⟩) n sc) (.slice da D.length dc) sb (.slice (some ⟨pb, po, none⟩) P.length pc) (.slice a7 (D.length + M.length + 1) c7) P S (M ++ [a])) :=
            Lib.hid (HM2.out.finish HSB.out HDS.out HKE.out hk7 ho7 hb7)
          clear ho7 hk7 hb7
          go_roundg (wmu n (nxt L) S P.reverse)
          case measure =>
            rw [← HG'.out, List.reverse_append]
            exact wmu_finish n
          case rel => exact ⟨some ⟨pb, po, none⟩, pc, P, a7, c7, S, M ++ [a], rfl, by simp [Nat.add_assoc], Lib.hid ⟨by simpa [Nat.add_assoc] using Q.out, rfl⟩⟩

end Go.Proofs.Ytncloielmfplpaa
