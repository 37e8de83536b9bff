/- The index's methods at tokens (a parameter that lies in memory; statements that draw their order). -/
import Derived.Test.YtibenffndoknpaaCloneT
import Derived.Test.YtibenffndoknpaaSameP
import Derived.StillTailTactics
import Derived.Deep.RegionLaw
import Derived.Deep.QuietTactic
import Derived.BigQuiet
import Derived.Maps.OwnSet
import Derived.WalkSpells
import Derived.WalkLawsBesides
namespace Go.Proofs.Ytibenffndoknpaa
open Go.RowKit
set_option linter.unusedVariables false
set_option linter.unusedSimpArgs false

abbrev IdxT := IdxIs (α := Tok) 72 46 4 encT (IsTok)

theorem idxNewT (w : World) :
    Calls Try.prog 21 #[] w fun e w' => ∃ p F, e = .returned p ∧ IdxT w' p F [] ∧ Kept (fun _ => False) w w' ∧ (∀ b, F b → w.heap.size ≤ b) ∧ ∃ b, p = .pointer (some ⟨b, 0, none⟩) := by
  have hmm := @run_makeMap Try.prog
  go_enter Try.func21, Try.ntmps21
  go_wp2
  go_ret
  refine ⟨_, fun b => b = w.heap.size + 1 ∨ b = w.heap.size, rfl, ⟨w.heap.size + 1, w.heap.size, .slice none 0 0, rfl, ?_, ?_, Own.nil _ _ _, by omega, by simp [Value.ownBlock], by simp [Value.ownBlock], List.nodup_nil, by simp [Value.ownBlock]⟩, ?_, ?_, _, rfl⟩
  · have := heap_alloc_new (w.alloc (.map #[] 0)) (.cells #[.map (some w.heap.size), .slice none 0 0] 72)
    simpa using this
  · exact (MapIs.made w _).kept (Below.heap_alloc _ _ _ (by simp))
  · exact ((Kept.refl _ w).alloc _).alloc _
  · rintro b (h | h) <;> omega

section
variable {p : Value} {F : Nat → Prop} {ks : List (Tok)} {w : World}

theorem idxLenT (h : IdxT w p F ks) :
    Calls Try.prog 37 #[p] w fun e w' => e = .returned (.int .i64 ks.length) ∧ w = w' := by
  obtain ⟨ib, bm, v, rfl, h1, hm, hown, hne, hv1, hv2, hnd, hF⟩ := h
  obtain ⟨a, c, rfl, _, _, _⟩ := hown.shape
  have c1 : w.cell? ⟨ib, 1, none⟩ = some (.slice a ks.length c) := cell_of h1 rfl
  clear hm hown hF hnd hv1 hv2 h1
  go_enter Try.func37, Try.ntmps37
  go_wp2
  go_ret
  exact ⟨rfl, rfl⟩

theorem idxLookT {bm : Nat} (hm : MapIs w (IsTok) bm (numbered encT ks)) (hnd : ks.Nodup) (k : Tok) :
    (Instr.lookup 70 (.map (some bm)) (encT k) true).run Try.prog w = .ok (.tuple #[.int .i64 (if k ∈ ks then ks.idxOf k else 0 : Nat), .bool (decide (k ∈ ks))]) w := by
  rcases hm.lookup koT Try.underlying70 (zeroInt w) (x := encT k) (ikT k) true with ⟨hne, hrun⟩ | ⟨j, v, hj, hrun⟩
  · have hk : k ∉ ks := fun hk => by
      obtain ⟨j, hj⟩ := List.mem_iff_getElem?.1 hk
      have := numbered_get encT ks j
      rw [hj] at this
      exact hne _ (List.mem_of_getElem? this) rfl
    rw [hrun]
    simp [hk]
  · rw [numbered_get] at hj
    obtain ⟨a, ha, he⟩ := Option.map_eq_some_iff.1 hj
    simp only [Prod.mk.injEq] at he
    obtain ⟨he1, he2⟩ := he
    have := encT_inj _ _ he1
    subst this
    subst he2
    have hlt := (List.getElem?_eq_some_iff.1 ha).1
    have hmem : a ∈ ks := List.mem_of_getElem? ha
    have hidx : ks.idxOf a = j := by
      have e : ks[j] = a := (List.getElem?_eq_some_iff.1 ha).2
      rw [← e]
      exact hnd.idxOf_getElem j hlt
    rw [hrun]
    simp [hmem, hidx]

theorem MapIs.drewN {w : World} {K : Value → Prop} {b : Nat} {m : List (Value × Value)} (h : MapIs w K b m) (n : Nat) : MapIs (w.drewN n) K b m := h.kept rfl

set_option maxRecDepth 100000 in
set_option maxHeartbeats 1000000 in
theorem idxFindT (h : IdxT w p F ks) (k : Tok) :
    Calls Try.prog 27 #[p, encT k] w fun e w' => e = .returned (.tuple #[.int .i64 (if k ∈ ks then ks.idxOf k else 0 : Nat), .int .i64 (if k ∈ ks then 0 else 6)]) ∧ Kept (fun _ => False) w w' := by
  obtain ⟨ib, bm, v, rfl, h1, hm, hown, hne, hv1, hv2, hnd, hF⟩ := h
  obtain ⟨o, ho⟩ : ∃ o, o = Obj.cells (encT k).cells 46 := ⟨_, rfl⟩
  have c0 : (w.alloc o).cell? ⟨ib, 0, none⟩ = some (.map (some bm)) := cell_of (heap_alloc h1 _) rfl
  have hlook := fun n => idxLookT ((hm.kept (Below.heap_alloc _ o _ hm.lt)).drewN n) hnd k
  have HKP := Lib.hid ((Kept.refl (fun _ => False) w).alloc o)
  clear hm hown hF hnd hv1 hv2 h1
  by_cases hk : k ∈ ks
  · simp only [hk, if_true, decide_true] at hlook ⊢
    generalize ks.idxOf k = n at hlook ⊢
    clear hk
    obtain ⟨k0, k1, k2, k3⟩ := k; simp only [encT] at hlook ⊢
    simp only [ho, encT, Value.cells] at c0 hlook HKP
    clear ho
    go_enter Try.func27, Try.ntmps27
    go_wp2_with fail
    go_quiet (fail)
    go_wp2
    go_ret2
    exact ⟨rfl, HKP.out.drewN _⟩
  · simp only [hk, if_false, decide_false] at hlook ⊢
    clear hk
    obtain ⟨k0, k1, k2, k3⟩ := k; simp only [encT] at hlook ⊢
    simp only [ho, encT, Value.cells] at c0 hlook HKP
    clear ho
    go_enter Try.func27, Try.ntmps27
    go_wp2_with fail
    go_quiet (fail)
    go_wp2
    go_ret2
    exact ⟨rfl, HKP.out.drewN _⟩

set_option maxRecDepth 100000 in
set_option maxHeartbeats 1000000 in
theorem idxNumberT (h : IdxT w p F ks) (k : Tok) (hf : Fits (ks.length + 1) 40) :
    Calls Try.prog 23 #[p, encT k] w fun e w' => e = .returned (.tuple #[.int .i64 (ks.idxOf k : Nat), .int .i64 0]) ∧ ∃ F', IdxT w' p F' (putK ks k) ∧ Kept F w w' ∧ ∀ b, F' b → F b ∨ w.heap.size ≤ b := by
  have h0 := h
  obtain ⟨ib, bm, v, rfl, h1, hm, hown, hne, hv1, hv2, hnd, hF⟩ := h
  obtain ⟨o, ho⟩ : ∃ o, o = Obj.cells (encT k).cells 46 := ⟨_, rfl⟩
  have c0 : (w.alloc o).cell? ⟨ib, 0, none⟩ = some (.map (some bm)) := cell_of (heap_alloc h1 _) rfl
  have hma := hm.kept (Below.heap_alloc _ o _ hm.lt)
  have hlook := fun n => idxLookT (hma.drewN n) hnd k
  have HKP := Lib.hid ((Kept.refl (fun _ => False) w).alloc o)
  by_cases hk : k ∈ ks
  · have HE := Lib.hid (show putK ks k = ks by simp [putK, hk])
    have H0 := Lib.hid h0
    simp only [hk, if_true, decide_true] at hlook
    clear h0 hm hown hF hnd hv1 hv2 h1 hf hk hma
    generalize ks.idxOf k = n at hlook ⊢
    obtain ⟨k0, k1, k2, k3⟩ := k; simp only [encT] at hlook ⊢
    simp only [ho, encT, Value.cells] at c0 hlook HKP
    clear ho
    go_enter Try.func23, Try.ntmps23
    go_wp2_with fail
    go_quiet (fail)
    go_wp2
    go_ret2
    have hkk := HKP.out.drewN nq
    exact ⟨rfl, F, by rw [HE.out]; exact H0.out.frame hkk (fun _ _ => id), hkk.mono (fun _ _ h => h.elim), fun b hb => .inl hb⟩
  · have HE := Lib.hid (show putK ks k = ks ++ [k] by simp [putK, hk])
    have HI := Lib.hid (show ks.idxOf k = ks.length from List.idxOf_eq_length hk)
    have HF := Lib.hid hF
    have HK := Lib.hid hk
    have HN := Lib.hid hnd
    have H1 := Lib.hid h1
    have HV := Lib.hid hv2
    have HV1 := Lib.hid hv1
    have HT := Lib.hid hf
    have HNE := Lib.hid hne
    have HM := Lib.hid hma
    have HM0 := Lib.hid hm.lt
    have HI0 := Lib.hid (heap_lt h1)
    obtain ⟨a, c, rfl, _, _, _⟩ := hown.shape
    have HO := Lib.hid (hown.alloc o)
    have c1 : (w.alloc o).cell? ⟨ib, 1, none⟩ = some (.slice a ks.length c) := cell_of (heap_alloc h1 _) rfl
    have f1 : (w.alloc o).frozen? ⟨ib, 1, none⟩ = false := frozen_of (heap_alloc h1 _)
    have hmax : ks.length + 1 ≤ 9223372036854775807 := by have := hf.1; unfold maxLen at this; omega
    rw [HI.out]
    simp only [hk, if_false, decide_false] at hlook
    clear h0 hm hown hF hnd h1 hk hv1 hv2 hf hne hma
    obtain ⟨k0, k1, k2, k3⟩ := k; simp only [encT] at hlook ⊢
    simp only [ho, encT, Value.cells] at c0 c1 f1 hlook HKP HO HM
    clear ho
    go_enter Try.func23, Try.ntmps23
    go_wp2_with fail
    go_quiet (fail)
    have hbox : (w.alloc (Obj.cells #[.int .i64 k0, .string ⟨k1.toArray⟩, .int .i64 k2, .int .i64 k3] 46)).heap[w.heap.size]? = some (.cells #[.int .i64 k0, .string ⟨k1.toArray⟩, .int .i64 k2, .int .i64 k3] 46) := by
      show (w.heap.push _)[w.heap.size]? = _; simp
    have B0 : ((w.alloc (Obj.cells #[.int .i64 k0, .string ⟨k1.toArray⟩, .int .i64 k2, .int .i64 k3] 46)).drewN nq).cell? ⟨ib, 0, none⟩ = some (.map (some bm)) := c0
    have B1 : ((w.alloc (Obj.cells #[.int .i64 k0, .string ⟨k1.toArray⟩, .int .i64 k2, .int .i64 k3] 46)).drewN nq).cell? ⟨ib, 1, none⟩ = some (.slice a ks.length c) := c1
    have BP := Lib.hid (HKP.out.drewN nq)
    have BM := Lib.hid (HM.out.drewN nq)
    have BX : Hid (((w.alloc (Obj.cells #[.int .i64 k0, .string ⟨k1.toArray⟩, .int .i64 k2, .int .i64 k3] 46)).drewN nq).heap[w.heap.size]? = some (.cells #[.int .i64 k0, .string ⟨k1.toArray⟩, .int .i64 k2, .int .i64 k3] 46)) := Lib.hid hbox
    have BO : Hid (Own ((w.alloc (Obj.cells #[.int .i64 k0, .string ⟨k1.toArray⟩, .int .i64 k2, .int .i64 k3] 46)).drewN nq) 46 4 (.slice a ks.length c) ks.length (cellsOf encT ks)) := Lib.hid HO.out
    have BI : Hid (((w.alloc (Obj.cells #[.int .i64 k0, .string ⟨k1.toArray⟩, .int .i64 k2, .int .i64 k3] 46)).drewN nq).heap[ib]? = some (Obj.cells #[.map (some bm), .slice a ks.length c] 72)) := Lib.hid (heap_alloc H1.out _)
    change Hid (Kept (fun _ => False) w ((w.alloc (Obj.cells #[.int .i64 k0, .string ⟨k1.toArray⟩, .int .i64 k2, .int .i64 k3] 46)).drewN nq)) at BP
    clear c0 c1 f1 hlook HKP HM HO hbox
    generalize (w.alloc (Obj.cells #[.int .i64 k0, .string ⟨k1.toArray⟩, .int .i64 k2, .int .i64 k3] 46)).drewN nq = wB at B0 B1 BP BM BX BO BI ⊢
    have x0 : wB.cell? ⟨w.heap.size, 0, none⟩ = _ := cell_of BX.out rfl
    have x1 : wB.cell? ⟨w.heap.size, 1, none⟩ = _ := cell_of BX.out rfl
    have x2 : wB.cell? ⟨w.heap.size, 2, none⟩ = _ := cell_of BX.out rfl
    have x3 : wB.cell? ⟨w.heap.size, 3, none⟩ = _ := cell_of BX.out rfl
    go_wp2
    go_still_tail 6, (by kernel_rfl)
    change wpList _ _ _ _ _ wB.drew
    have CP := Lib.hid (BP.out.drew)
    have CM : Hid (MapIs wB.drew (IsTok) bm (numbered encT ks)) := Lib.hid BM.out
    have CX : Hid (wB.drew.heap[w.heap.size]? = some (.cells #[.int .i64 k0, .string ⟨k1.toArray⟩, .int .i64 k2, .int .i64 k3] 46)) := Lib.hid BX.out
    have CO : Hid (Own wB.drew 46 4 (.slice a ks.length c) ks.length (cellsOf encT ks)) := Lib.hid BO.out
    have CI : Hid (wB.drew.heap[ib]? = some (Obj.cells #[.map (some bm), .slice a ks.length c] 72)) := Lib.hid BI.out
    clear B0 B1 BP BM BX BO BI x0 x1 x2 x3
    generalize wB.drew = wC at CP CM CX CO CI ⊢
    refine wpList_store_new (key := encT (k0, k1, k2, k3)) (u := .int .i64 ks.length) koT Try.underlying70 rfl _ _ _ rfl rfl rfl rfl CM.out (ikT _) (numbered_keys encT_inj HK.out) ?_
    intro w1 hm1 hk1
    have M1 := Lib.hid hm1
    have K1 := Lib.hid hk1
    have hxb : w.heap.size ≠ bm := fun e => by have := (HM0.out); omega
    have X1 := Lib.hid ((hk1.block _ (heap_lt CX.out) hxb).trans CX.out)
    have I1 := Lib.hid ((hk1.block _ (heap_lt CI.out) HNE.out).trans CI.out)
    have O1 := Lib.hid (CO.out.frame hk1 (fun b hb e => HV.out (by rw [hb, e])))
    have B1 : w1.cell? ⟨ib, 1, none⟩ = some (.slice a ks.length c) := cell_of I1.out rfl
    have x0 : w1.cell? ⟨w.heap.size, 0, none⟩ = _ := cell_of X1.out rfl
    have x1 : w1.cell? ⟨w.heap.size, 1, none⟩ = _ := cell_of X1.out rfl
    have x2 : w1.cell? ⟨w.heap.size, 2, none⟩ = _ := cell_of X1.out rfl
    have x3 : w1.cell? ⟨w.heap.size, 3, none⟩ = _ := cell_of X1.out rfl
    clear hm1 hk1
    go_wp2
    have hib1 : ib < w1.heap.size := heap_lt I1.out
    go_region_law (first
      | (refine step_append slTok (v := .slice a ks.length c) (n := ks.length) (m := 1) (xs := cellsOf encT ks) (news := [.int .i64 k0, .string ⟨k1.toArray⟩, .int .i64 k2, .int .i64 k3]) rfl _ _ rfl rfl rfl ?_ ?_ ?_ HT.out ?_
         · exact O1.out.alloc _
         · exact Own.rd (Own.fresh (n := 1) (by rfl) (by decide))
         · simp [Value.oneCell']
         intro v2 w2 hown2 hk2 hb2
         obtain ⟨a2, c2, rfl, _, _, _⟩ := hown2.shape
         have hk2' : Kept (fun b => (Value.slice a ks.length c).ownBlock = some b) (w1.alloc (.cells #[.int .i64 k0, .string ⟨k1.toArray⟩, .int .i64 k2, .int .i64 k3] 46)) w2 := ⟨hk2.os, hk2.tape, hk2.output, hk2.size, hk2.block⟩
         have hb2' : ∀ b, (Value.slice a2 (ks.length + 1) c2).ownBlock = some b → (Value.slice a ks.length c).ownBlock = some b ∨ (w1.alloc (.cells #[.int .i64 k0, .string ⟨k1.toArray⟩, .int .i64 k2, .int .i64 k3] 46)).heap.size ≤ b := hb2
         have HO2 := Lib.hid hown2
         have HK2 := Lib.hid hk2'
         have HB2 := Lib.hid hb2'
         have E2 := Lib.hid ((hk2'.block ib (by have := heap_lt I1.out; simp; omega) HV1.out).trans (heap_alloc I1.out _))
         have d2 : w2.cell? ⟨ib, 1, none⟩ = some (.slice a ks.length c) := cell_of E2.out rfl
         have f2 : w2.frozen? ⟨ib, 1, none⟩ = false := frozen_of E2.out
         clear hown2 hk2 hb2 hk2' hb2'))
    all_goals
      go_wp2
      go_ret2
      obtain ⟨F', r1, r2, r3⟩ := IdxIs.grow (k := (k0, k1, k2, k3)) M1.out K1.out (heap_lt CI.out) CM.out.lt HNE.out HV1.out HV.out HN.out HK.out HK2.out HO2.out HB2.out E2.out
      have hs := CP.out.size
      refine ⟨rfl, F', by rw [HE.out]; exact r1, (CP.out.mono (fun _ _ h => h.elim)).trans' (r2.mono (fun i _ h => (HF.out i).2 h)) (fun i _ h => h), fun b hb => (r3 b hb).imp (HF.out b).2 (fun h => by omega)⟩

theorem idxListT (h : IdxT w p F ks) (hf : Fits ks.length 40) :
    Calls Try.prog 33 #[p] w fun e w' => ∃ v, e = .returned v ∧ Fresh w w' 46 4 v ks.length (cellsOf encT ks) := by
  obtain ⟨ib, bm, v, rfl, h1, hm, hown, hne, hv1, hv2, hnd, hF⟩ := h
  have c1 : w.cell? ⟨ib, 1, none⟩ = some v := cell_of h1 rfl
  have H := cloneT v ks.length (cellsOf encT ks) w hown.rd (oneT ks) hf
  obtain ⟨a, c, rfl, _, _, _⟩ := hown.shape
  have HH := Lib.hid H
  clear hm hown hF hnd hv1 hv2 h1 H
  go_enter Try.func33, Try.ntmps33
  go_wp2_with (go_at_call 41; refine HH.out.mono ?_; rintro e w' ⟨v, rfl, hfr⟩)
  go_ret
  exact ⟨_, rfl, hfr⟩


set_option maxRecDepth 100000 in
set_option maxHeartbeats 1000000 in
theorem idxAtT_bad (h : IdxT w p F ks) (n : Int) (hn : n < 0 ∨ (ks.length : Int) ≤ n) :
    Calls Try.prog 29 #[p, .int .i64 n] w fun e w' => e = .returned (.tuple #[.agg #[.int .i64 0, .string ⟨#[]⟩, .int .i64 0, .int .i64 0], .int .i64 2]) ∧ Kept (fun _ => False) w w' := by
  obtain ⟨ib, bm, v, rfl, h1, hm, hown, hne, hv1, hv2, hnd, hF⟩ := h
  obtain ⟨a, c, rfl, k1, k2, _⟩ := hown.shape
  obtain ⟨o, ho⟩ : ∃ o, o = Obj.cells #[.int .i64 0, .string ⟨#[]⟩, .int .i64 0, .int .i64 0] 46 := ⟨_, rfl⟩
  have c1 : (w.alloc o).cell? ⟨ib, 1, none⟩ = some (.slice a ks.length c) := cell_of (heap_alloc h1 _) rfl
  have HKP := Lib.hid ((Kept.refl (fun _ => False) w).alloc o)
  rw [ho] at c1 HKP
  clear hm hown hF hnd hv1 hv2 h1 ho
  by_cases h0 : n < 0
  · go_enter Try.func29, Try.ntmps29
    go_wp2
    refine bodyPost_ret (v := .tuple #[.agg #[.int .i64 0, .string ⟨#[]⟩, .int .i64 0, .int .i64 0], .int .i64 2]) ?_ rfl ⟨rfl, HKP.out⟩
    simp [results, Try.results29, go_sem]
  · have h2 : (ks.length : Int) ≤ n := by omega
    go_enter Try.func29, Try.ntmps29
    go_wp2
    refine bodyPost_ret (v := .tuple #[.agg #[.int .i64 0, .string ⟨#[]⟩, .int .i64 0, .int .i64 0], .int .i64 2]) ?_ rfl ⟨rfl, HKP.out⟩
    simp [results, Try.results29, go_sem]

set_option maxRecDepth 100000 in
set_option maxHeartbeats 1000000 in
theorem idxAtT_ok (h : IdxT w p F ks) (n : Int) (h0 : 0 ≤ n) (h2 : n < (ks.length : Int)) :
    Calls Try.prog 29 #[p, .int .i64 n] w fun e w' => ∃ k, ks[n.toNat]? = some k ∧ e = .returned (.tuple #[encT k, .int .i64 0]) ∧ Kept (fun _ => False) w w' := by
  obtain ⟨j, rfl⟩ := Int.eq_ofNat_of_zero_le h0
  obtain ⟨ib, bm, v, rfl, h1, hm, hown, hne, hv1, hv2, hnd, hF⟩ := h
  obtain ⟨a, c, rfl, k1, k2, k4⟩ := hown.shape
  have hj : j < ks.length := by omega
  obtain ⟨o, ho⟩ : ∃ o, o = Obj.cells #[.int .i64 0, .string ⟨#[]⟩, .int .i64 0, .int .i64 0] 46 := ⟨_, rfl⟩
  have c1 : (w.alloc o).cell? ⟨ib, 1, none⟩ = some (.slice a ks.length c) := cell_of (heap_alloc h1 _) rfl
  unfold maxLen at k2
  cases a with
  | none => exact absurd (k4 rfl).1 (by omega)
  | some ad =>
    obtain ⟨x0, x1, x2, x3⟩ := rdCellT (hown.rd.alloc o) hj
    have HJ := Lib.hid (show ks[(j : Int).toNat]? = some ks[j] by simp [hj])
    refine Calls.mono (R := fun e w' => e = .returned (.tuple #[encT ks[j], .int .i64 0]) ∧ Kept (fun _ => False) w w') ?_ (fun e w' ⟨h1, h2⟩ => ⟨_, HJ.out, h1, h2⟩)
    generalize ks[j] = x at x0 x1 x2 x3 ⊢
    obtain ⟨y0, y1, y2, y3⟩ := x
    dsimp only at x0 x1 x2 x3
    have HKP := Lib.hid ((Kept.refl (fun _ => False) w).alloc (.cells #[.int .i64 y0, .string ⟨y1.toArray⟩, .int .i64 y2, .int .i64 y3] 46))
    rw [ho] at c1 x0 x1 x2 x3
    clear hm hown hF hnd hv1 hv2 h1 k4 ho HJ
    unfold encT
    go_enter Try.func29, Try.ntmps29
    go_wp2
    refine bodyPost_ret (v := .tuple #[.agg #[.int .i64 y0, .string ⟨y1.toArray⟩, .int .i64 y2, .int .i64 y3], .int .i64 0]) ?_ rfl ⟨rfl, HKP.out⟩
    simp [results, Try.results29, go_sem]

end

end Go.Proofs.Ytibenffndoknpaa
