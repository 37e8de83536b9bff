/- The index's methods at one type of things: New, Number, Find. -/
import Derived.Test.YtncloielmfplpaaFacts5
import Derived.Test.YtncloielmfplpaaIdxIs
import Derived.WalkKit
import Derived.Maps.OwnSet
import Derived.WalkSpells
import Derived.WalkLawsBesides
namespace Go.Proofs.Ytncloielmfplpaa
open Go.RowKit
set_option linter.unusedVariables false
set_option linter.unusedSimpArgs false

abbrev IdxS := IdxIs (α := List UInt8) 92 9 1 encS (MapKept.IsKey .string)

theorem idxNewS (w : World) :
    Calls Try.prog 47 #[] w fun e w' => ∃ p F, e = .returned p ∧ IdxS w' p F [] ∧ Kept (fun _ => False) w w' ∧ (∀ b, F b → w.heap.size ≤ b) ∧ ∃ b, p = .pointer (some ⟨b, 0, none⟩) := by
  have hmm := @run_makeMap Try.prog
  go_enter Try.func47, Try.ntmps47
  go_wp2
  go_ret
  refine ⟨_, fun b => b = w.heap.size + 1 ∨ b = w.heap.size, rfl, ⟨w.heap.size + 1, w.heap.size, .slice none 0 0, rfl, ?_, ?_, Own.nil _ _ _, by omega, by simp [Value.ownBlock], by simp [Value.ownBlock], List.nodup_nil, by simp [Value.ownBlock]⟩, ?_, ?_, _, rfl⟩
  · have := heap_alloc_new (w.alloc (.map #[] 0)) (.cells #[.map (some w.heap.size), .slice none 0 0] 92)
    simpa using this
  · exact (MapIs.made w _).kept (Below.heap_alloc _ _ _ (by simp))
  · exact ((Kept.refl _ w).alloc _).alloc _
  · rintro b (h | h) <;> omega

section
variable {p : Value} {F : Nat → Prop} {ks : List (List UInt8)} {w : World}

theorem idxLookS {bm : Nat} (hm : MapIs w (MapKept.IsKey .string) bm (numbered encS ks)) (hnd : ks.Nodup) (k : List UInt8) :
    (Instr.lookup 90 (.map (some bm)) (encS k) true).run Try.prog w = .ok (.tuple #[.int .i64 (if k ∈ ks then ks.idxOf k else 0 : Nat), .bool (decide (k ∈ ks))]) w := by
  rcases hm.lookup koS Try.underlying90 (zeroInt w) (x := encS k) (ikS k) true with ⟨hne, hrun⟩ | ⟨j, v, hj, hrun⟩
  · have hk : k ∉ ks := fun hk => by
      obtain ⟨j, hj⟩ := List.mem_iff_getElem?.1 hk
      have := numbered_get encS ks j
      rw [hj] at this
      exact hne _ (List.mem_of_getElem? this) rfl
    rw [hrun]
    simp [hk]
  · rw [numbered_get] at hj
    obtain ⟨a, ha, he⟩ := Option.map_eq_some_iff.1 hj
    simp only [Prod.mk.injEq] at he
    obtain ⟨he1, he2⟩ := he
    have := encS_inj _ _ he1
    subst this
    subst he2
    have hlt := (List.getElem?_eq_some_iff.1 ha).1
    have hmem : a ∈ ks := List.mem_of_getElem? ha
    have hidx : ks.idxOf a = j := by
      have e : ks[j] = a := (List.getElem?_eq_some_iff.1 ha).2
      rw [← e]
      exact hnd.idxOf_getElem j hlt
    rw [hrun]
    simp [hmem, hidx]

theorem idxFindS (h : IdxS w p F ks) (k : List UInt8) :
    Calls Try.prog 40 #[p, encS k] w fun e w' => e = .returned (.tuple #[.int .i64 (if k ∈ ks then ks.idxOf k else 0 : Nat), .int .i64 (if k ∈ ks then 0 else 6)]) ∧ w = w' := by
  obtain ⟨ib, bm, v, rfl, h1, hm, hown, hne, hv1, hv2, hnd, hF⟩ := h
  have c0 : w.cell? ⟨ib, 0, none⟩ = some (.map (some bm)) := cell_of h1 rfl
  have hlook := idxLookS hm hnd k
  clear hm hown hF hnd hv1 hv2 h1
  by_cases hk : k ∈ ks
  · simp only [hk, if_true, decide_true] at hlook ⊢
    generalize ks.idxOf k = n at hlook ⊢
    clear hk
    simp only [encS] at hlook ⊢
    go_enter Try.func40, Try.ntmps40
    go_wp2_with (at_lookup; refine wpList_lookup_run rfl _ _ rfl rfl rfl hlook ?_)
    go_ret2
    exact ⟨rfl, rfl⟩
  · simp only [hk, if_false, decide_false] at hlook ⊢
    clear hk
    simp only [encS] at hlook ⊢
    go_enter Try.func40, Try.ntmps40
    go_wp2_with (at_lookup; refine wpList_lookup_run rfl _ _ rfl rfl rfl hlook ?_)
    go_ret2
    exact ⟨rfl, rfl⟩

theorem idxNumberS (h : IdxS w p F ks) (k : List UInt8) (hf : Fits (ks.length + 1) 16) :
    Calls Try.prog 48 #[p, encS k] w fun e w' => e = .returned (.tuple #[.int .i64 (ks.idxOf k : Nat), .int .i64 0]) ∧ ∃ F', IdxS w' p F' (putK ks k) ∧ Kept F w w' ∧ ∀ b, F' b → F b ∨ w.heap.size ≤ b := by
  have h0 := h
  obtain ⟨ib, bm, v, rfl, h1, hm, hown, hne, hv1, hv2, hnd, hF⟩ := h
  have c0 : w.cell? ⟨ib, 0, none⟩ = some (.map (some bm)) := cell_of h1 rfl
  have hlook := idxLookS hm hnd k
  by_cases hk : k ∈ ks
  · have HE := Lib.hid (show putK ks k = ks by simp [putK, hk])
    have H0 := Lib.hid h0
    simp only [hk, if_true, decide_true] at hlook
    clear h0 hm hown hF hnd hv1 hv2 h1 hf hk
    generalize ks.idxOf k = n at hlook ⊢
    simp only [encS] at hlook ⊢
    go_enter Try.func48, Try.ntmps48
    go_wp2_with (at_lookup; refine wpList_lookup_run rfl _ _ rfl rfl rfl hlook ?_)
    go_ret2
    exact ⟨rfl, F, by rw [HE.out]; exact H0.out, Kept.refl _ _, fun b hb => .inl hb⟩
  · have HE := Lib.hid (show putK ks k = ks ++ [k] by simp [putK, hk])
    have HI := Lib.hid (show ks.idxOf k = ks.length from List.idxOf_eq_length hk)
    have HF := Lib.hid hF
    have HK := Lib.hid hk
    have HN := Lib.hid hnd
    have H1 := Lib.hid h1
    have HV := Lib.hid hv2
    have HT := Lib.hid hf
    obtain ⟨a, c, rfl, _, _, _⟩ := hown.shape
    have c1 : w.cell? ⟨ib, 1, none⟩ = some (.slice a ks.length c) := cell_of h1 rfl
    have hmax : ks.length + 1 ≤ 9223372036854775807 := by have := hf.1; unfold maxLen at this; omega
    rw [HI.out]
    simp only [hk, if_false, decide_false] at hlook
    clear h0 hF hnd h1 hk hv2 hf
    simp only [encS] at hlook ⊢
    go_enter Try.func48, Try.ntmps48
    go_wp2_with (first
      | (at_lookup; refine wpList_lookup_run rfl _ _ rfl rfl rfl hlook ?_)
      | (at_mapUpdate; refine wpList_store_new (key := encS k) (u := .int .i64 ks.length) koS Try.underlying90 rfl _ _ _ rfl rfl rfl rfl hm (ikS _) (numbered_keys encS_inj HK.out) ?_; intro w1 hm1 hk1; have d1 := hk1.cell c1 hne; have e1 := Lib.hid ((hk1.block ib (heap_lt H1.out) hne).trans H1.out); have own1 := hown.frame hk1 (fun b hb e => HV.out (by rw [hb, e])))
      | (at_builtin; refine wpList_append slStr (v := .slice a ks.length c) (vx := .slice (some ⟨w1.heap.size, 0, none⟩) 1 1) (news := (encS k).cells.toList) (m := 1) rfl _ _ rfl rfl rfl (own1.alloc _) (Own.rd (Own.fresh (n := 1) (by rfl) (by decide))) (by simp [encS, Value.cells, Value.oneCell']) HT.out ?_; intro v2 w2 hown2 hk2 hb2 _; obtain ⟨a2, c2, rfl, _, _, _⟩ := hown2.shape; have e2 := Lib.hid ((hk2.block ib (by have := heap_lt e1.out; simp; omega) hv1).trans (heap_alloc e1.out _)); have d2 : w2.cell? ⟨ib, 1, none⟩ = some (.slice a ks.length c) := cell_of e2.out rfl; have f2 : w2.frozen? ⟨ib, 1, none⟩ = false := frozen_of e2.out))
    go_ret2
    obtain ⟨F', r1, r2, r3⟩ := IdxIs.grow hm1 hk1 (heap_lt H1.out) hm.lt hne hv1 HV.out HN.out HK.out hk2 hown2 hb2 e2.out
    refine ⟨rfl, F', by rw [HE.out]; exact r1, r2.mono (fun i _ h => (HF.out i).2 h), fun b hb => (r3 b hb).imp (HF.out b).2 id⟩

end

end Go.Proofs.Ytncloielmfplpaa
