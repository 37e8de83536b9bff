/- The reference's scope: all bindings, one behind the other, each with its level. -/
import Derived.Test.YtllcklddfcclfaaSameI
import Derived.Test.YtllcklddfcclfaaFitsWide
import Derived.Deep.SlicePairs
import Derived.Deep.RegionLaw
import Derived.Deep.QuietTactic
import Derived.BigQuiet
import Derived.WalkSpells
import Derived.IntWalk
namespace Go.Proofs.Ytllcklddfcclfaa
open Go.RowKit
set_option linter.unusedVariables false
set_option linter.unusedSimpArgs false

abbrev Bd := Nat × Int × Int
def encBd (b : Bd) : Value := .agg #[.int .i64 (b.1 : Int), .int .i64 b.2.1, .int .i64 b.2.2]

theorem slBd : SlT Try.prog 37 80 (.agg #[.int .i64 0, .int .i64 0, .int .i64 0]) 3 24 := SlT.mk' Try.underlying37 (by kernel_rfl) rfl (by decide) (by decide)

theorem cellsOf_encBd_get (xs : List Bd) {k j : Nat} (hk : k < xs.length) (hj : j < 3) : (cellsOf encBd xs)[k * 3 + j]? = (encBd xs[k]).cells.toList[j]? := by
  induction xs generalizing k with
  | nil => simp at hk
  | cons x xs ih =>
    show ((encBd x).cells.toList ++ cellsOf encBd xs)[k * 3 + j]? = _
    have hl : (encBd x).cells.toList.length = 3 := rfl
    cases k with
    | zero => rw [List.getElem?_append_left (by omega)]; simp
    | succ k =>
      rw [List.getElem?_append_right (by omega), hl, show (k + 1) * 3 + j - 3 = k * 3 + j by omega]
      exact ih (by simpa using hk)

/-- p points at a reference of level n that holds L; F: its blocks. -/
def RSc (w : World) (p : Value) (F : Nat → Prop) (n : Nat) (L : List Bd) : Prop :=
  ∃ rb v, p = .pointer (some ⟨rb, 0, none⟩) ∧ w.heap[rb]? = some (.cells #[.int .i64 (n : Int), v] 39 (0, 0)) ∧ Own w 80 3 v L.length (cellsOf encBd L) ∧ v.ownBlock ≠ some rb ∧ ∀ b, F b ↔ (b = rb ∨ v.ownBlock = some b)

theorem RSc.lt {w : World} {p : Value} {F : Nat → Prop} {n : Nat} {L : List Bd} (h : RSc w p F n L) {b : Nat} (hb : F b) : b < w.heap.size := by
  obtain ⟨rb, v, rfl, h1, h2, h3, hF⟩ := h
  rcases (hF b).1 hb with rfl | hv
  · exact heap_lt h1
  · exact h2.lt hv

theorem RSc.frame {w w' : World} {p : Value} {F G : Nat → Prop} {n : Nat} {L : List Bd} (h : RSc w p F n L) (hk : Kept G w w') (hd : ∀ b, F b → ¬ G b) : RSc w' p F n L := by
  obtain ⟨rb, v, rfl, h1, h2, h3, hF⟩ := h
  exact ⟨rb, v, rfl, (hk.block rb (heap_lt h1) (hd _ ((hF _).2 (.inl rfl)))).trans h1, h2.frame hk (fun b hb => hd _ ((hF _).2 (.inr hb))), h3, hF⟩

theorem RSc.made (w : World) : RSc (w.alloc (.cells #[.int .i64 0, .slice none 0 0] 39)) (.pointer (some ⟨w.heap.size, 0, none⟩)) (fun b => b = w.heap.size) 0 [] :=
  ⟨w.heap.size, .slice none 0 0, rfl, (by show (w.heap.push _)[w.heap.size]? = _; simp), Own.nil _ _ _, by simp [Value.ownBlock], fun b => by simp [Value.ownBlock]⟩

section
variable {w : World} {p : Value} {F : Nat → Prop} {n : Nat} {L : List Bd}

theorem rscOpen (h : RSc w p F n L) (hn : n < 9223372036854775807) :
    Calls Try.prog 15 #[p] w fun e w' => (∃ v, e = .returned v) ∧ RSc w' p F (n + 1) L ∧ Kept F w w' := by
  obtain ⟨rb, v, rfl, h1, hown, hv1, hF⟩ := h
  have c0 : w.cell? ⟨rb, 0, none⟩ = some (.int .i64 (n : Int)) := cell_of h1 rfl
  have f0 : w.frozen? ⟨rb, 0, none⟩ = false := frozen_of h1
  have H1 := Lib.hid h1
  have HO := Lib.hid hown
  have HV := Lib.hid hv1
  have HF := Lib.hid hF
  clear h1 hown hv1 hF
  go_enter Try.func15, Try.ntmps15
  go_wp2
  go_end0
  refine ⟨⟨_, rfl⟩, ⟨rb, v, rfl, ?_, HO.out.setCell (p := ⟨rb, 0, none⟩) HV.out _, HV.out, HF.out⟩, (Kept.refl _ w).setCell (fun _ => (HF.out rb).2 (.inl rfl)) _⟩
  have := heap_set (o := 0) H1.out (.int .i64 ((n : Int) + 1))
  simpa using this

theorem rscLevel (h : RSc w p F n L) :
    Calls Try.prog 22 #[p] w fun e w' => e = .returned (.int .i64 (n : Int)) ∧ w = w' := by
  obtain ⟨rb, v, rfl, h1, hown, hv1, hF⟩ := h
  have c0 : w.cell? ⟨rb, 0, none⟩ = some (.int .i64 (n : Int)) := cell_of h1 rfl
  clear h1 hown hv1 hF
  go_enter Try.func22, Try.ntmps22
  go_wp2
  go_ret
  exact ⟨rfl, rfl⟩

theorem rscClose0 (h : RSc w p F 0 L) :
    Calls Try.prog 17 #[p] w fun e w' => e = .returned (.int .i64 4) ∧ w = w' := by
  obtain ⟨rb, v, rfl, h1, hown, hv1, hF⟩ := h
  have c0 : w.cell? ⟨rb, 0, none⟩ = some (.int .i64 0) := cell_of h1 rfl
  clear h1 hown hv1 hF
  go_enter Try.func17, Try.ntmps17
  go_wp2
  go_ret
  exact ⟨rfl, rfl⟩

theorem filter_take {α : Type} {q : α → Bool} {L : List α} {j : Nat} (h : j < L.length) : (L.take (j + 1)).filter q = (L.take j).filter q ++ (if q L[j] then [L[j]] else []) := by
  rw [List.take_succ_eq_append_getElem h, List.filter_append]
  by_cases hq : q L[j] <;> simp [hq]

theorem filter_take_le {α : Type} (q : α → Bool) (L : List α) (j : Nat) : ((L.take j).filter q).length ≤ j := by
  have h1 := List.length_filter_le q (L.take j)
  have h2 := List.length_take_le j L
  omega

set_option maxRecDepth 100000 in
set_option maxHeartbeats 1000000 in
theorem rscClose (h : RSc w p F (n + 1) L) (hL : L.length * 24 ≤ 140737488355328) (hn : n < 9223372036854775807) :
    Calls Try.prog 17 #[p] w fun e w' => e = .returned (.int .i64 0) ∧ ∃ F', RSc w' p F' n (L.filter fun b => decide (b.1 < n + 1)) ∧ Kept F w w' ∧ ∀ b, F' b → F b ∨ w.heap.size ≤ b := by
  obtain ⟨rb, v, rfl, h1, hown, hv1, hF⟩ := h
  obtain ⟨a, c, rfl, a1, a2, a3⟩ := hown.shape
  have c0 : w.cell? ⟨rb, 0, none⟩ = some (.int .i64 ((n + 1 : Nat) : Int)) := cell_of h1 rfl
  have c1 : w.cell? ⟨rb, 1, none⟩ = some (.slice a L.length c) := cell_of h1 rfl
  have b0 : (((n + 1 : Nat) : Int) == 0) = false := by simp; omega
  have b0' : ((n : Int) + 1 == 0) = false := by simp; omega
  have H1 := Lib.hid h1
  have HO := Lib.hid hown
  have HV := Lib.hid hv1
  have HF := Lib.hid hF
  have A3 := Lib.hid a3
  have HL := Lib.hid hL
  have hml : L.length ≤ 9223372036854775807 := by unfold maxLen at a2; omega
  clear h1 hown hv1 hF a3 a2 hL
  go_enter Try.func17, Try.ntmps17
  go_wp2
  clear c0 c1 b0 b0'
  go_loopw [3, 4] (fun lv i wr => ∃ k : Nat, k ≤ L.length ∧ i = .int .i64 k ∧ Hid (Own wr 80 3 lv ((L.take k).filter fun b => decide (b.1 < n + 1)).length (cellsOf encBd ((L.take k).filter fun b => decide (b.1 < n + 1))) ∧ Kept (fun _ => False) w wr ∧ ∀ b, lv.ownBlock = some b → w.heap.size ≤ b)) (fun _ i _ => L.length - (intOf i).toNat)
  case atStart => exact ⟨0, Nat.zero_le _, rfl, Lib.hid ⟨Own.nil _ _ _, Kept.refl _ _, by simp [Value.ownBlock]⟩⟩
  case round =>
    obtain ⟨k, hk, rfl, hH⟩ := hrel
    obtain ⟨h1, h2, h3⟩ := hH.out
    obtain ⟨na, nc, rfl, n1, n2, n3⟩ := h1.shape
    have hb1 := (h2.block rb (heap_lt H1.out) id).trans H1.out
    have d0 : wr.cell? ⟨rb, 0, none⟩ = some (.int .i64 ((n + 1 : Nat) : Int)) := cell_of hb1 rfl
    have d1 : wr.cell? ⟨rb, 1, none⟩ = some (.slice a L.length c) := cell_of hb1 rfl
    by_cases hlt : k < L.length
    · obtain ⟨g, off, cap, hv, _, _, hcl, hfz, hg⟩ := (HO.out.frame h2 (fun _ _ => id)).elt (by omega)
      simp only [Value.slice.injEq, true_and] at hv
      obtain ⟨rfl, rfl⟩ := hv
      have e0 : wr.cell? ⟨g, off + k * 3, none⟩ = some (.int .i64 (L[k].1 : Int)) := hcl (k * 3) _ (by have := cellsOf_encBd_get L hlt (j := 0) (by omega); exact this)
      have e1 : wr.cell? ⟨g, off + k * 3 + 1, none⟩ = some (.int .i64 L[k].2.1) := hcl (k * 3 + 1) _ (by have := cellsOf_encBd_get L hlt (j := 1) (by omega); exact this)
      have e2 : wr.cell? ⟨g, off + k * 3 + 2, none⟩ = some (.int .i64 L[k].2.2) := hcl (k * 3 + 2) _ (by have := cellsOf_encBd_get L hlt (j := 2) (by omega); exact this)
      have hstep := filter_take (q := fun b : Bd => decide (b.1 < n + 1)) hlt
      have hfl := filter_take_le (fun b : Bd => decide (b.1 < n + 1)) L k
      generalize hY' : (L.take (k + 1)).filter (fun b : Bd => decide (b.1 < n + 1)) = Y' at hstep
      generalize hY : (L.take k).filter (fun b : Bd => decide (b.1 < n + 1)) = Y at hstep hfl h1 h3 n1 n3 ⊢
      have HYP := Lib.hid hY'
      generalize L[k] = x at e0 e1 e2 hstep
      obtain ⟨x0, x1, x2⟩ := x
      dsimp only at e0 e1 e2 hstep
      have HSTEP := Lib.hid hstep
      have O1 := Lib.hid h1
      have K2 := Lib.hid h2
      have N3 := Lib.hid h3
      have hi0 : (0 : Int) ≤ (k : Int) := by omega
      have hi1 : (k : Int) < (L.length : Int) := by omega
      clear hH h1 h2 h3 n3 hcl hfz hb1 hstep hY hY'
      by_cases hx : x0 < n + 1
      · have HX : Hid (Y' = Y ++ [(x0, x1, x2)]) := Lib.hid (by have := HSTEP.out; rw [if_pos (by simpa using hx)] at this; exact this)
        have HT : Hid (Fits (Y.length + 1) 24) := Lib.hid (fits_of (by have := HL.out; omega) (by decide))
        go_wp2_with fail
        go_quiet (fail)
        have B0 : (wr.drewN nq).cell? ⟨rb, 1, none⟩ = _ := d1
        have B1 : (wr.drewN nq).cell? ⟨g, off + k * 3, none⟩ = _ := e0
        have B2 : (wr.drewN nq).cell? ⟨g, off + k * 3 + 1, none⟩ = _ := e1
        have B3 : (wr.drewN nq).cell? ⟨g, off + k * 3 + 2, none⟩ = _ := e2
        have BO : Hid (Own (wr.drewN nq) 80 3 (.slice na Y.length nc) Y.length (cellsOf encBd Y)) := Lib.hid O1.out
        have BK : Hid (Kept (fun _ => False) w (wr.drewN nq)) := Lib.hid (K2.out.drewN nq)
        clear d0 d1 e0 e1 e2 O1 K2 hg
        generalize wr.drewN nq = wB at B0 B1 B2 B3 BO BK ⊢
        go_wp2_with (at_builtin; refine wpList_append slBd (v := .slice na Y.length nc) (vx := .slice (some ⟨wB.heap.size, 0, none⟩) 1 1) (news := [.int .i64 (x0 : Int), .int .i64 x1, .int .i64 x2]) (m := 1) rfl _ _ rfl rfl rfl (BO.out.alloc _) (Own.rd (Own.fresh (n := 1) (by rfl) (by decide))) (by simp [Value.oneCell']) HT.out ?_; intro v2 w2 hown2 hk2 hb2 _)
        have q1 : Own w2 80 3 v2 ((L.take (k + 1)).filter fun b => decide (b.1 < n + 1)).length (cellsOf encBd ((L.take (k + 1)).filter fun b => decide (b.1 < n + 1))) := by
          rw [HYP.out, HX.out, cellsOf_append, List.length_append]
          exact hown2
        have q2 : Kept (fun _ => False) w w2 := (BK.out.alloc _).trans' hk2 (fun i hi h => by have := N3.out i h; omega)
        have q3 : ∀ b, v2.ownBlock = some b → w.heap.size ≤ b := fun b h => by
          rcases hb2 b h with h | h
          · exact N3.out b h
          · have := BK.out.size
            simp at h
            omega
        have Q := Lib.hid (And.intro q1 (And.intro q2 q3))
        clear q1 q2 q3 hown2 hk2 hb2
        go_roundw
        case rel => exact ⟨k + 1, by omega, by go_num, Q⟩
        case measure => simp [intOf]; omega
      · have HX : Hid (Y' = Y) := Lib.hid (by have := HSTEP.out; rw [if_neg (by simpa using hx), List.append_nil] at this; exact this)
        go_wp2_with fail
        go_quiet (fail)
        have Q := Lib.hid (show Own (wr.drewN nq) 80 3 (.slice na Y.length nc) ((L.take (k + 1)).filter fun b => decide (b.1 < n + 1)).length (cellsOf encBd ((L.take (k + 1)).filter fun b => decide (b.1 < n + 1))) ∧ Kept (fun _ => False) w (wr.drewN nq) ∧ ∀ b, (Value.slice na Y.length nc).ownBlock = some b → w.heap.size ≤ b from by
          rw [HYP.out, HX.out]
          exact ⟨O1.out, K2.out.drewN nq, N3.out⟩)
        go_wp2
        go_roundw
        case rel => exact ⟨k + 1, by omega, by go_num, Q⟩
        case measure => simp [intOf]; omega
    · obtain rfl : k = L.length := by omega
      rw [List.take_length] at h1 h3 n1 ⊢
      have O1 := Lib.hid h1
      have K2 := Lib.hid h2
      have HB1 := Lib.hid hb1
      have N3 := Lib.hid h3
      generalize hY : L.filter (fun b : Bd => decide (b.1 < n + 1)) = Y at O1 h1 N3 h3 n1 ⊢
      have f1 : wr.frozen? ⟨rb, 1, none⟩ = false := frozen_of hb1
      have hnb : (Value.slice na Y.length nc).ownBlock ≠ some rb := fun h => by have := N3.out rb h; have := heap_lt H1.out; omega
      have e1 := heap_set (o := 1) hb1 (.slice na Y.length nc)
      have g0 : (wr.setCell ⟨rb, 1, none⟩ (.slice na Y.length nc)).cell? ⟨rb, 0, none⟩ = some (.int .i64 ((n + 1 : Nat) : Int)) := cell_of e1 (by simp)
      have g1 : (wr.setCell ⟨rb, 1, none⟩ (.slice na Y.length nc)).frozen? ⟨rb, 0, none⟩ = false := frozen_of e1
      have hsub : ((n + 1 : Nat) : Int) - 1 = (n : Int) := by omega
      have E1 := Lib.hid e1
      have NB := Lib.hid hnb
      have HY := Lib.hid hY
      clear hH h1 h2 h3 hb1 e1 hY hnb
      go_wp2
      go_ret
      have hk : Kept F w ((wr.setCell ⟨rb, 1, none⟩ (.slice na Y.length nc)).setCell ⟨rb, 0, none⟩ (.int .i64 (n : Int))) := (((K2.out.mono (fun _ _ h => h.elim)).setCell (fun _ => (HF.out rb).2 (.inl rfl)) _).setCell (fun _ => (HF.out rb).2 (.inl rfl)) _)
      refine ⟨rfl, fun b => b = rb ∨ (Value.slice na Y.length nc).ownBlock = some b, ⟨rb, _, rfl, ?_, by rw [HY.out]; exact (O1.out.setCell (p := ⟨rb, 1, none⟩) NB.out _).setCell (p := ⟨rb, 0, none⟩) NB.out _, NB.out, fun _ => Iff.rfl⟩, hk, fun b hb => ?_⟩
      · have := heap_set (o := 0) E1.out (.int .i64 (n : Int))
        simpa using this
      · rcases hb with h | h
        · exact .inl ((HF.out b).2 (.inl h))
        · exact .inr (N3.out b h)

theorem any_take {α : Type} {q : α → Bool} {L : List α} {j : Nat} (h : j < L.length) (h1 : (L.take j).any q = false) (h2 : q L[j] = false) : (L.take (j + 1)).any q = false := by
  rw [List.take_succ_eq_append_getElem h, List.any_append, h1]
  simp [h2]

theorem any_at {α : Type} {q : α → Bool} {L : List α} {j : Nat} (h : j < L.length) (h2 : q L[j] = true) : L.any q = true :=
  List.any_eq_true.2 ⟨_, List.getElem_mem h, h2⟩

set_option maxRecDepth 100000 in
set_option maxHeartbeats 1000000 in
theorem rscBind (h : RSc w p F n L) (kk vv : Int) (hf : Fits (L.length + 1) 24) :
    Calls Try.prog 19 #[p, .int .i64 kk, .int .i64 vv] w fun e w' =>
      (L.any (fun b => decide (b.1 = n) && decide (b.2.1 = kk)) = true ∧ e = .returned (.int .i64 5) ∧ Kept (fun _ => False) w w') ∨
      (L.any (fun b => decide (b.1 = n) && decide (b.2.1 = kk)) = false ∧ e = .returned (.int .i64 0) ∧ ∃ F', RSc w' p F' n (L ++ [(n, kk, vv)]) ∧ Kept F w w' ∧ ∀ b, F' b → F b ∨ w.heap.size ≤ b) := by
  obtain ⟨rb, v, rfl, h1, hown, hv1, hF⟩ := h
  obtain ⟨a, c, rfl, a1, a2, a3⟩ := hown.shape
  have H1 := Lib.hid h1
  have HO := Lib.hid hown
  have HV := Lib.hid hv1
  have HF := Lib.hid hF
  have HT := Lib.hid hf
  have hml : L.length ≤ 9223372036854775807 := by unfold maxLen at a2; omega
  clear h1 hown hv1 hF a3 a2 hf
  go_enter Try.func19, Try.ntmps19
  go_wp2
  go_loopw [7] (fun i wr => ∃ k : Nat, k ≤ L.length ∧ i = .int .i64 k ∧ Hid ((L.take k).any (fun b => decide (b.1 = n) && decide (b.2.1 = kk)) = false ∧ Kept (fun _ => False) w wr)) (fun i _ => L.length - (intOf i).toNat)
  case atStart => exact ⟨0, Nat.zero_le _, rfl, Lib.hid ⟨by simp, Kept.refl _ _⟩⟩
  case round =>
    obtain ⟨k, hk, rfl, hH⟩ := hrel
    obtain ⟨hno, h2⟩ := hH.out
    have hb1 := (h2.block rb (heap_lt H1.out) id).trans H1.out
    have d0 : wr.cell? ⟨rb, 0, none⟩ = some (.int .i64 (n : Int)) := cell_of hb1 rfl
    have d1 : wr.cell? ⟨rb, 1, none⟩ = some (.slice a L.length c) := cell_of hb1 rfl
    by_cases hlt : k < L.length
    · obtain ⟨g, off, cap, hv, _, _, hcl, hfz, hg⟩ := (HO.out.frame h2 (fun _ _ => id)).elt (by omega)
      simp only [Value.slice.injEq, true_and] at hv
      obtain ⟨rfl, rfl⟩ := hv
      have e0 : wr.cell? ⟨g, off + k * 3, none⟩ = some (.int .i64 (L[k].1 : Int)) := hcl (k * 3) _ (by have := cellsOf_encBd_get L hlt (j := 0) (by omega); exact this)
      have e1 : wr.cell? ⟨g, off + k * 3 + 1, none⟩ = some (.int .i64 L[k].2.1) := hcl (k * 3 + 1) _ (by have := cellsOf_encBd_get L hlt (j := 1) (by omega); exact this)
      have hany := fun h => any_take (q := fun b : Bd => decide (b.1 = n) && decide (b.2.1 = kk)) hlt hno h
      have hyes := fun h => any_at (q := fun b : Bd => decide (b.1 = n) && decide (b.2.1 = kk)) hlt h
      generalize L[k] = x at e0 e1 hany hyes
      obtain ⟨x0, x1, x2⟩ := x
      dsimp only at e0 e1 hany hyes
      have K2 := Lib.hid h2
      have HANY := Lib.hid hany
      have HYES := Lib.hid hyes
      have hi0 : (0 : Int) ≤ (k : Int) := by omega
      have hi1 : (k : Int) < (L.length : Int) := by omega
      clear hH hno h2 hcl hfz hb1 hany hyes
      by_cases hx : x0 = n
      · subst hx
        by_cases hy : x1 = kk
        · subst hy
          have HA := Lib.hid (HYES.out (by simp))
          go_wp2_with fail
          go_quiet (fail)
          go_wp2
          go_ret
          exact .inl ⟨HA.out, rfl, K2.out.drewN _⟩
        · have b1 : (x1 == kk) = false := by simp [hy]
          have HA := Lib.hid (HANY.out (by simp [hy]))
          clear hy
          go_wp2_with fail
          go_quiet (fail)
          have Q := Lib.hid (And.intro HA.out (K2.out.drewN nq))
          go_wp2
          go_roundw
          case rel => exact ⟨k + 1, by omega, by go_num, Q⟩
          case measure => simp [intOf]; omega
      · have b1 : ((x0 : Int) == (n : Int)) = false := by simp; omega
        have HA := Lib.hid (HANY.out (by simp [hx]))
        clear hx
        go_wp2_with fail
        go_quiet (fail)
        have Q := Lib.hid (And.intro HA.out (K2.out.drewN nq))
        go_wp2
        go_roundw
        case rel => exact ⟨k + 1, by omega, by go_num, Q⟩
        case measure => simp [intOf]; omega
    · obtain rfl : k = L.length := by omega
      rw [List.take_length] at hno
      have HNO := Lib.hid hno
      have K2 := Lib.hid h2
      have HB1 := Lib.hid hb1
      have O1 := Lib.hid (HO.out.frame h2 (fun _ _ => id))
      have f1 : wr.frozen? ⟨rb, 1, none⟩ = false := frozen_of hb1
      have hlt1 : rb < wr.heap.size := heap_lt hb1
      clear hH hno h2 hb1
      go_wp2_with fail
      go_region_law (first
        | (refine step_append slBd (v := .slice a L.length c) (n := L.length) (m := 1) (xs := cellsOf encBd L) (news := [.int .i64 (n : Int), .int .i64 kk, .int .i64 vv]) rfl _ _ rfl rfl rfl ?_ ?_ ?_ HT.out ?_
           · exact O1.out.alloc _
           · exact Own.rd (Own.fresh (n := 1) (by rfl) (by decide))
           · simp [Value.oneCell']
           intro v2 w2 hown2 hk2 hb2
           obtain ⟨a2, c2, rfl, _, _, _⟩ := hown2.shape
           have hk2' : Kept (fun b => (Value.slice a L.length c).ownBlock = some b) (wr.alloc (.cells #[.int .i64 (n : Int), .int .i64 kk, .int .i64 vv] 80)) w2 := ⟨hk2.os, hk2.tape, hk2.output, hk2.size, hk2.block⟩
           have hb2' : ∀ b, (Value.slice a2 (L.length + 1) c2).ownBlock = some b → (Value.slice a L.length c).ownBlock = some b ∨ (wr.alloc (.cells #[.int .i64 (n : Int), .int .i64 kk, .int .i64 vv] 80)).heap.size ≤ b := hb2
           have HO2 := Lib.hid hown2
           have HK2 := Lib.hid hk2'
           have HB2 := Lib.hid hb2'
           have E2 := Lib.hid ((hk2'.block rb (by simp; omega) HV.out).trans (heap_alloc HB1.out _))
           have d2 : w2.cell? ⟨rb, 1, none⟩ = some (.slice a L.length c) := cell_of E2.out rfl
           have d3 : w2.cell? ⟨rb, 0, none⟩ = some (.int .i64 (n : Int)) := cell_of E2.out rfl
           have f2 : w2.frozen? ⟨rb, 1, none⟩ = false := frozen_of E2.out
           clear hown2 hk2 hb2 hk2' hb2'))
      all_goals
        go_wp2
        go_ret
        refine .inr ⟨HNO.out, rfl, fun b => b = rb ∨ (Value.slice a2 (L.length + 1) c2).ownBlock = some b, ⟨rb, _, rfl, ?_, ?_, ?_, fun _ => Iff.rfl⟩, ?_, ?_⟩
        · have := heap_set (o := 1) E2.out (.slice a2 (L.length + 1) c2)
          simpa using this
        · rw [List.length_append, cellsOf_append]
          refine HO2.out.setCell (p := ⟨rb, 1, none⟩) ?_ _
          intro h
          rcases HB2.out rb h with h | h
          · exact HV.out h
          · simp at h; omega
        · intro h
          rcases HB2.out rb h with h | h
          · exact HV.out h
          · simp at h; omega
        · exact Kept.setCell (((K2.out.alloc _).mono (fun _ _ h => h.elim)).trans' HK2.out (fun i _ h => (HF.out i).2 (.inr h))) (fun _ => (HF.out rb).2 (.inl rfl)) _
        · rintro b (h | h)
          · exact .inl ((HF.out b).2 (.inl h))
          · rcases HB2.out b h with h | h
            · exact .inl ((HF.out b).2 (.inr h))
            · have := K2.out.size
              simp at h
              exact .inr (by omega)

/-- What Find answers of the list: the last binding of the key. -/
def LastBd (L : List Bd) (kk : Int) (r : Int × Int × Int) : Prop :=
  (r = (0, 0, 6) ∧ ∀ b ∈ L, b.2.1 ≠ kk) ∨ ∃ (j : Nat) (hj : j < L.length), r = (L[j].2.2, (L[j].1 : Int), 0) ∧ L[j].2.1 = kk ∧ ∀ i (hi : i < L.length), j < i → L[i].2.1 ≠ kk

set_option maxRecDepth 100000 in
set_option maxHeartbeats 1000000 in
theorem rscFind (h : RSc w p F n L) (kk : Int) :
    Calls Try.prog 20 #[p, .int .i64 kk] w fun e w' => ∃ r : Int × Int × Int, e = .returned (.tuple #[.int .i64 r.1, .int .i64 r.2.1, .int .i64 r.2.2]) ∧ LastBd L kk r ∧ Kept (fun _ => False) w w' := by
  obtain ⟨rb, v, rfl, h1, hown, hv1, hF⟩ := h
  obtain ⟨a, c, rfl, a1, a2, a3⟩ := hown.shape
  have c1 : w.cell? ⟨rb, 1, none⟩ = some (.slice a L.length c) := cell_of h1 rfl
  have HO := Lib.hid hown
  have hml : L.length ≤ 9223372036854775807 := by unfold maxLen at a2; omega
  have hw1 : IntKind.i64.wrap ((L.length : Int) - 1) = (L.length : Int) - 1 := IntWalk.i64_in _ (by omega)
  clear h1 hown hv1 hF a3 a2
  go_enter Try.func20, Try.ntmps20
  go_wp2
  clear hw1
  go_loop [7] (fun i => ∃ k : Nat, k ≤ L.length ∧ i = .int .i64 ((k : Int) - 1) ∧ Hid (∀ i (hi : i < L.length), k ≤ i → L[i].2.1 ≠ kk)) (fun i => (intOf i + 1).toNat)
  case atStart => exact ⟨L.length, Nat.le_refl _, rfl, Lib.hid (fun i hi h => by omega)⟩
  case round =>
    obtain ⟨k, hk, rfl, hH⟩ := hrel
    by_cases hpos : 0 < k
    · obtain ⟨m, rfl⟩ : ∃ m, k = m + 1 := ⟨k - 1, by omega⟩
      have hlt : m < L.length := by omega
      have em : (((m + 1 : Nat) : Int) - 1) = (m : Int) := by omega
      rw [em]
      obtain ⟨g, off, cap, hv, _, _, hcl, hfz, hg⟩ := HO.out.elt (by omega)
      simp only [Value.slice.injEq, true_and] at hv
      obtain ⟨rfl, rfl⟩ := hv
      have e0 : w.cell? ⟨g, off + m * 3, none⟩ = some (.int .i64 (L[m].1 : Int)) := hcl (m * 3) _ (by have := cellsOf_encBd_get L hlt (j := 0) (by omega); exact this)
      have e1 : w.cell? ⟨g, off + m * 3 + 1, none⟩ = some (.int .i64 L[m].2.1) := hcl (m * 3 + 1) _ (by have := cellsOf_encBd_get L hlt (j := 1) (by omega); exact this)
      have e2 : w.cell? ⟨g, off + m * 3 + 2, none⟩ = some (.int .i64 L[m].2.2) := hcl (m * 3 + 2) _ (by have := cellsOf_encBd_get L hlt (j := 2) (by omega); exact this)
      have hi0 : (0 : Int) ≤ (m : Int) := by omega
      have hi1 : (m : Int) < (L.length : Int) := by omega
      by_cases hy : L[m].2.1 = kk
      · have HR : Hid (LastBd L kk (L[m].2.2, (L[m].1 : Int), 0)) := Lib.hid (.inr ⟨m, hlt, rfl, hy, fun i hi h => hH.out i hi (by omega)⟩)
        have b1 : (L[m].2.1 == kk) = true := by simp [hy]
        generalize L[m] = x at e0 e1 e2 HR b1
        obtain ⟨x0, x1, x2⟩ := x
        dsimp only at e0 e1 e2 HR b1
        clear hy hH hcl hfz em hpos hk
        go_wp2_with fail
        go_quiet (fail)
        go_wp2
        refine bodyPost_ret (v := .tuple #[.int .i64 x2, .int .i64 (x0 : Int), .int .i64 0]) ?_ rfl ⟨(x2, (x0 : Int), 0), rfl, HR.out, (Kept.refl _ w).drewN _⟩
        simp [results, Try.results20, go_sem]
      · have b1 : (L[m].2.1 == kk) = false := by simp [hy]
        have Q := Lib.hid (show ∀ i (hi : i < L.length), m ≤ i → L[i].2.1 ≠ kk from fun i hi h => by
          by_cases hm : i = m
          · subst hm; exact hy
          · exact hH.out i hi (by omega))
        generalize L[m] = x at e0 e1 e2 b1
        obtain ⟨x0, x1, x2⟩ := x
        dsimp only at e0 e1 e2 b1
        clear hy hH hcl hfz em
        go_wp2
        go_round
        case rel => exact ⟨m, by omega, rfl, Q⟩
        case measure => simp [intOf]
    · obtain rfl : k = 0 := by omega
      have HR : Hid (LastBd L kk (0, 0, 6)) := Lib.hid (.inl ⟨rfl, fun b hb => by
        obtain ⟨i, hi, rfl⟩ := List.mem_iff_getElem.1 hb
        exact hH.out i hi (Nat.zero_le _)⟩)
      have em : (((0 : Nat) : Int) - 1) = (-1 : Int) := by omega
      rw [em]
      clear hH em hpos
      go_wp2
      refine bodyPost_ret (v := .tuple #[.int .i64 0, .int .i64 0, .int .i64 6]) ?_ rfl ⟨0, 0, 6, rfl, HR.out, Kept.refl _ _⟩
      simp [results, Try.results20, go_sem]

set_option maxRecDepth 100000 in
set_option maxHeartbeats 1000000 in
theorem rscHere (h : RSc w p F n L) (hL : L.length * 8 ≤ 140737488355328) :
    Calls Try.prog 23 #[p] w fun e w' => ∃ v, e = .returned v ∧ Fresh w w' 3 1 v ((L.filter fun b => decide (b.1 = n)).map (·.2.1)).length (cellsOf encI ((L.filter fun b => decide (b.1 = n)).map (·.2.1))) := by
  obtain ⟨rb, v, rfl, h1, hown, hv1, hF⟩ := h
  obtain ⟨a, c, rfl, a1, a2, a3⟩ := hown.shape
  have H1 := Lib.hid h1
  have HO := Lib.hid hown
  have HL := Lib.hid hL
  have hml : L.length ≤ 9223372036854775807 := by unfold maxLen at a2; omega
  clear h1 hown hv1 hF a3 a2 hL
  go_enter Try.func23, Try.ntmps23
  go_wp2
  go_loopw [3, 4] (fun lv i wr => ∃ k : Nat, k ≤ L.length ∧ i = .int .i64 k ∧ Hid (Own wr 3 1 lv (((L.take k).filter fun b => decide (b.1 = n)).map (·.2.1)).length (cellsOf encI (((L.take k).filter fun b => decide (b.1 = n)).map (·.2.1))) ∧ Kept (fun _ => False) w wr ∧ ∀ b, lv.ownBlock = some b → w.heap.size ≤ b)) (fun _ i _ => L.length - (intOf i).toNat)
  case atStart => exact ⟨0, Nat.zero_le _, rfl, Lib.hid ⟨Own.nil _ _ _, Kept.refl _ _, by simp [Value.ownBlock]⟩⟩
  case round =>
    obtain ⟨k, hk, rfl, hH⟩ := hrel
    obtain ⟨h1, h2, h3⟩ := hH.out
    obtain ⟨na, nc, rfl, n1, n2, n3⟩ := h1.shape
    have hb1 := (h2.block rb (heap_lt H1.out) id).trans H1.out
    have d0 : wr.cell? ⟨rb, 0, none⟩ = some (.int .i64 (n : Int)) := cell_of hb1 rfl
    have d1 : wr.cell? ⟨rb, 1, none⟩ = some (.slice a L.length c) := cell_of hb1 rfl
    by_cases hlt : k < L.length
    · obtain ⟨g, off, cap, hv, _, _, hcl, hfz, hg⟩ := (HO.out.frame h2 (fun _ _ => id)).elt (by omega)
      simp only [Value.slice.injEq, true_and] at hv
      obtain ⟨rfl, rfl⟩ := hv
      have e0 : wr.cell? ⟨g, off + k * 3, none⟩ = some (.int .i64 (L[k].1 : Int)) := hcl (k * 3) _ (by have := cellsOf_encBd_get L hlt (j := 0) (by omega); exact this)
      have e1 : wr.cell? ⟨g, off + k * 3 + 1, none⟩ = some (.int .i64 L[k].2.1) := hcl (k * 3 + 1) _ (by have := cellsOf_encBd_get L hlt (j := 1) (by omega); exact this)
      have hstep := congrArg (List.map (fun b : Bd => b.2.1)) (filter_take (q := fun b : Bd => decide (b.1 = n)) hlt)
      have hfl := filter_take_le (fun b : Bd => decide (b.1 = n)) L k
      rw [← List.length_map (f := fun b : Bd => b.2.1)] at hfl
      rw [List.map_append] at hstep
      generalize hY' : ((L.take (k + 1)).filter (fun b : Bd => decide (b.1 = n))).map (fun b : Bd => b.2.1) = Y' at hstep
      generalize hY : ((L.take k).filter (fun b : Bd => decide (b.1 = n))).map (fun b : Bd => b.2.1) = Y at hstep hfl h1 h3 n1 n3 ⊢
      have HYP := Lib.hid hY'
      generalize L[k] = x at e0 e1 hstep
      obtain ⟨x0, x1, x2⟩ := x
      dsimp only at e0 e1 hstep
      have HSTEP := Lib.hid hstep
      have O1 := Lib.hid h1
      have K2 := Lib.hid h2
      have N3 := Lib.hid h3
      have hi0 : (0 : Int) ≤ (k : Int) := by omega
      have hi1 : (k : Int) < (L.length : Int) := by omega
      clear hH h1 h2 h3 n3 hcl hfz hb1 hstep hY hY'
      by_cases hx : x0 = n
      · have HX : Hid (Y' = Y ++ [x1]) := Lib.hid (by have := HSTEP.out; rw [if_pos (by simpa using hx)] at this; exact this)
        have HT : Hid (Fits (Y.length + 1) 8) := Lib.hid (fits_of (by have := HL.out; omega) (by decide))
        subst hx
        go_wp2_with fail
        go_quiet (fail)
        have B0 : (wr.drewN nq).cell? ⟨rb, 1, none⟩ = _ := d1
        have B2 : (wr.drewN nq).cell? ⟨g, off + k * 3 + 1, none⟩ = _ := e1
        have BO : Hid (Own (wr.drewN nq) 3 1 (.slice na Y.length nc) Y.length (cellsOf encI Y)) := Lib.hid O1.out
        have BK : Hid (Kept (fun _ => False) w (wr.drewN nq)) := Lib.hid (K2.out.drewN nq)
        clear d0 d1 e0 e1 O1 K2 hg
        generalize wr.drewN nq = wB at B0 B2 BO BK ⊢
        go_wp2_with (at_builtin; refine wpList_append slInt (v := .slice na Y.length nc) (vx := .slice (some ⟨wB.heap.size, 0, none⟩) 1 1) (news := (encI x1).cells.toList) (m := 1) rfl _ _ rfl rfl rfl (BO.out.alloc _) (Own.rd (Own.fresh (n := 1) (by rfl) (by decide))) (by simp [encI, Value.cells, Value.oneCell']) HT.out ?_; intro v2 w2 hown2 hk2 hb2 _)
        have q1 : Own w2 3 1 v2 (((L.take (k + 1)).filter fun b => decide (b.1 = x0)).map (·.2.1)).length (cellsOf encI (((L.take (k + 1)).filter fun b => decide (b.1 = x0)).map (·.2.1))) := by
          rw [HYP.out, HX.out, cellsOf_append, List.length_append]
          exact hown2
        have q2 : Kept (fun _ => False) w w2 := (BK.out.alloc _).trans' hk2 (fun i hi h => by have := N3.out i h; omega)
        have q3 : ∀ b, v2.ownBlock = some b → w.heap.size ≤ b := fun b h => by
          rcases hb2 b h with h | h
          · exact N3.out b h
          · have := BK.out.size
            simp at h
            omega
        have Q := Lib.hid (And.intro q1 (And.intro q2 q3))
        clear q1 q2 q3 hown2 hk2 hb2
        go_roundw
        case rel => exact ⟨k + 1, by omega, by go_num, Q⟩
        case measure => simp [intOf]; omega
      · have HX : Hid (Y' = Y) := Lib.hid (by have := HSTEP.out; rw [if_neg (by simpa using hx)] at this; simpa using this)
        have b1 : ((x0 : Int) == (n : Int)) = false := by simp; omega
        clear hx
        go_wp2_with fail
        go_quiet (fail)
        have Q := Lib.hid (show Own (wr.drewN nq) 3 1 (.slice na Y.length nc) (((L.take (k + 1)).filter fun b => decide (b.1 = n)).map (·.2.1)).length (cellsOf encI (((L.take (k + 1)).filter fun b => decide (b.1 = n)).map (·.2.1))) ∧ Kept (fun _ => False) w (wr.drewN nq) ∧ ∀ b, (Value.slice na Y.length nc).ownBlock = some b → w.heap.size ≤ b from by
          rw [HYP.out, HX.out]
          exact ⟨O1.out, K2.out.drewN nq, N3.out⟩)
        go_wp2
        go_roundw
        case rel => exact ⟨k + 1, by omega, by go_num, Q⟩
        case measure => simp [intOf]; omega
    · obtain rfl : k = L.length := by omega
      rw [List.take_length] at h1 h3
      have O1 := Lib.hid (show Fresh w wr 3 1 _ _ _ from ⟨h1, h2, h3⟩)
      rw [List.take_length] at n1 ⊢
      clear hH h1 h2 h3 hb1
      go_wp2
      go_ret
      refine ⟨.slice na _ nc, rfl, ?_⟩
      have h := O1.out
      simp only [List.length_map] at h ⊢
      exact h

end

end Go.Proofs.Ytllcklddfcclfaa
