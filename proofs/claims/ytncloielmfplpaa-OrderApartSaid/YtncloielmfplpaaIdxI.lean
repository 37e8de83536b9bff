/- The index's methods at one type of things: New, Number, Find. -/
import Derived.Test.YtncloielmfplpaaFacts5
import Derived.Test.YtncloielmfplpaaIdxIs
import Derived.WalkKit
import Derived.Maps.OwnSet
import Derived.WalkSpells
import Derived.WalkLawsBesides
namespace Go.Proofs.Ytncloielmfplpaa
open Go.RowKit
set_option linter.unusedVariables false
set_option linter.unusedSimpArgs false

abbrev IdxI := IdxIs (α := Int) 84 3 1 encI (MapKept.IsKey (.int .i64))

theorem idxNewI (w : World) :
    Calls Try.prog 43 #[] w fun e w' => ∃ p F, e = .returned p ∧ IdxI w' p F [] ∧ Kept (fun _ => False) w w' ∧ (∀ b, F b → w.heap.size ≤ b) ∧ ∃ b, p = .pointer (some ⟨b, 0, none⟩) := by
  have hmm := @run_makeMap Try.prog
  go_enter Try.func43, Try.ntmps43
  go_wp2
  go_ret
  refine ⟨_, fun b => b = w.heap.size + 1 ∨ b = w.heap.size, rfl, ⟨w.heap.size + 1, w.heap.size, .slice none 0 0, rfl, ?_, ?_, Own.nil _ _ _, by omega, by simp [Value.ownBlock], by simp [Value.ownBlock], List.nodup_nil, by simp [Value.ownBlock]⟩, ?_, ?_, _, rfl⟩
  · have := heap_alloc_new (w.alloc (.map #[] 0)) (.cells #[.map (some w.heap.size), .slice none 0 0] 84)
    simpa using this
  · exact (MapIs.made w _).kept (Below.heap_alloc _ _ _ (by simp))
  · exact ((Kept.refl _ w).alloc _).alloc _
  · rintro b (h | h) <;> omega

section
variable {p : Value} {F : Nat → Prop} {ks : List (Int)} {w : World}

theorem idxLookI {bm : Nat} (hm : MapIs w (MapKept.IsKey (.int .i64)) bm (numbered encI ks)) (hnd : ks.Nodup) (k : Int) :
    (Instr.lookup 82 (.map (some bm)) (encI k) true).run Try.prog w = .ok (.tuple #[.int .i64 (if k ∈ ks then ks.idxOf k else 0 : Nat), .bool (decide (k ∈ ks))]) w := by
  rcases hm.lookup koI Try.underlying82 (zeroInt w) (x := encI k) (ikI k) true with ⟨hne, hrun⟩ | ⟨j, v, hj, hrun⟩
  · have hk : k ∉ ks := fun hk => by
      obtain ⟨j, hj⟩ := List.mem_iff_getElem?.1 hk
      have := numbered_get encI ks j
      rw [hj] at this
      exact hne _ (List.mem_of_getElem? this) rfl
    rw [hrun]
    simp [hk]
  · rw [numbered_get] at hj
    obtain ⟨a, ha, he⟩ := Option.map_eq_some_iff.1 hj
    simp only [Prod.mk.injEq] at he
    obtain ⟨he1, he2⟩ := he
    have := encI_inj _ _ he1
    subst this
    subst he2
    have hlt := (List.getElem?_eq_some_iff.1 ha).1
    have hmem : a ∈ ks := List.mem_of_getElem? ha
    have hidx : ks.idxOf a = j := by
      have e : ks[j] = a := (List.getElem?_eq_some_iff.1 ha).2
      rw [← e]
      exact hnd.idxOf_getElem j hlt
    rw [hrun]
    simp [hmem, hidx]

theorem idxFindI (h : IdxI w p F ks) (k : Int) :
    Calls Try.prog 28 #[p, encI k] w fun e w' => e = .returned (.tuple #[.int .i64 (if k ∈ ks then ks.idxOf k else 0 : Nat), .int .i64 (if k ∈ ks then 0 else 6)]) ∧ w = w' := by
  obtain ⟨ib, bm, v, rfl, h1, hm, hown, hne, hv1, hv2, hnd, hF⟩ := h
  have c0 : w.cell? ⟨ib, 0, none⟩ = some (.map (some bm)) := cell_of h1 rfl
  have hlook := idxLookI hm hnd k
  clear hm hown hF hnd hv1 hv2 h1
  by_cases hk : k ∈ ks
  · simp only [hk, if_true, decide_true] at hlook ⊢
    generalize ks.idxOf k = n at hlook ⊢
    clear hk
    simp only [encI] at hlook ⊢
    go_enter Try.func28, Try.ntmps28
    go_wp2_with (at_lookup; refine wpList_lookup_run rfl _ _ rfl rfl rfl hlook ?_)
    go_ret2
    exact ⟨rfl, rfl⟩
  · simp only [hk, if_false, decide_false] at hlook ⊢
    clear hk
    simp only [encI] at hlook ⊢
    go_enter Try.func28, Try.ntmps28
    go_wp2_with (at_lookup; refine wpList_lookup_run rfl _ _ rfl rfl rfl hlook ?_)
    go_ret2
    exact ⟨rfl, rfl⟩

theorem idxNumberI (h : IdxI w p F ks) (k : Int) (hf : Fits (ks.length + 1) 8) :
    Calls Try.prog 44 #[p, encI k] w fun e w' => e = .returned (.tuple #[.int .i64 (ks.idxOf k : Nat), .int .i64 0]) ∧ ∃ F', IdxI w' p F' (putK ks k) ∧ Kept F w w' ∧ ∀ b, F' b → F b ∨ w.heap.size ≤ b := by
  have h0 := h
  obtain ⟨ib, bm, v, rfl, h1, hm, hown, hne, hv1, hv2, hnd, hF⟩ := h
  have c0 : w.cell? ⟨ib, 0, none⟩ = some (.map (some bm)) := cell_of h1 rfl
  have hlook := idxLookI hm hnd k
  by_cases hk : k ∈ ks
  · have HE := Lib.hid (show putK ks k = ks by simp [putK, hk])
    have H0 := Lib.hid h0
    simp only [hk, if_true, decide_true] at hlook
    clear h0 hm hown hF hnd hv1 hv2 h1 hf hk
    generalize ks.idxOf k = n at hlook ⊢
    simp only [encI] at hlook ⊢
    go_enter Try.func44, Try.ntmps44
    go_wp2_with (at_lookup; refine wpList_lookup_run rfl _ _ rfl rfl rfl hlook ?_)
    go_ret2
    exact ⟨rfl, F, by rw [HE.out]; exact H0.out, Kept.refl _ _, fun b hb => .inl hb⟩
  · have HE := Lib.hid (show putK ks k = ks ++ [k] by simp [putK, hk])
    have HI := Lib.hid (show ks.idxOf k = ks.length from List.idxOf_eq_length hk)
    have HF := Lib.hid hF
    have HK := Lib.hid hk
    have HN := Lib.hid hnd
    have H1 := Lib.hid h1
    have HV := Lib.hid hv2
    have HT := Lib.hid hf
    obtain ⟨a, c, rfl, _, _, _⟩ := hown.shape
    have c1 : w.cell? ⟨ib, 1, none⟩ = some (.slice a ks.length c) := cell_of h1 rfl
    have hmax : ks.length + 1 ≤ 9223372036854775807 := by have := hf.1; unfold maxLen at this; omega
    rw [HI.out]
    simp only [hk, if_false, decide_false] at hlook
    clear h0 hF hnd h1 hk hv2 hf
    simp only [encI] at hlook ⊢
    go_enter Try.func44, Try.ntmps44
    go_wp2_with (first
      | (at_lookup; refine wpList_lookup_run rfl _ _ rfl rfl rfl hlook ?_)
      | (at_mapUpdate; refine wpList_store_new (key := encI k) (u := .int .i64 ks.length) koI Try.underlying82 rfl _ _ _ rfl rfl rfl rfl hm (ikI _) (numbered_keys encI_inj HK.out) ?_; intro w1 hm1 hk1; have d1 := hk1.cell c1 hne; have e1 := Lib.hid ((hk1.block ib (heap_lt H1.out) hne).trans H1.out); have own1 := hown.frame hk1 (fun b hb e => HV.out (by rw [hb, e])))
      | (at_builtin; refine wpList_append slInt (v := .slice a ks.length c) (vx := .slice (some ⟨w1.heap.size, 0, none⟩) 1 1) (news := (encI k).cells.toList) (m := 1) rfl _ _ rfl rfl rfl (own1.alloc _) (Own.rd (Own.fresh (n := 1) (by rfl) (by decide))) (by simp [encI, Value.cells, Value.oneCell']) HT.out ?_; intro v2 w2 hown2 hk2 hb2 _; obtain ⟨a2, c2, rfl, _, _, _⟩ := hown2.shape; have e2 := Lib.hid ((hk2.block ib (by have := heap_lt e1.out; simp; omega) hv1).trans (heap_alloc e1.out _)); have d2 : w2.cell? ⟨ib, 1, none⟩ = some (.slice a ks.length c) := cell_of e2.out rfl; have f2 : w2.frozen? ⟨ib, 1, none⟩ = false := frozen_of e2.out))
    go_ret2
    obtain ⟨F', r1, r2, r3⟩ := IdxIs.grow hm1 hk1 (heap_lt H1.out) hm.lt hne hv1 HV.out HN.out HK.out hk2 hown2 hb2 e2.out
    refine ⟨rfl, F', by rw [HE.out]; exact r1, r2.mono (fun i _ h => (HF.out i).2 h), fun b hb => (r3 b hb).imp (HF.out b).2 id⟩

end

end Go.Proofs.Ytncloielmfplpaa
