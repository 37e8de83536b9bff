/- The scope's Bind and Here at one pair of types of one cell. -/
import Derived.Test.YtllcklddfcclfaaScopeII
import Derived.Deep.RegionWith
namespace Go.Proofs.Ytllcklddfcclfaa
open Go.RowKit
set_option linter.unusedVariables false
set_option linter.unusedSimpArgs false

theorem zeroII (w : World) : (zeroValue 3).run Try.prog w = .ok ((.int .i64 0)) w := by kernel_rfl

theorem scopeLookII {w : World} {mb : Nat} {items : List (Int × Int)} (hm : MapIs w (MapKept.IsKey (.int .i64)) mb (items.map fun it => (encI it.1, encI it.2))) (k : Int) :
    (k ∉ items.map (·.1) ∧ (Instr.lookup 71 (.map (some mb)) (encI k) true).run Try.prog w = .ok (.tuple #[(.int .i64 0), .bool false]) w) ∨
      ∃ (j : Nat) (x : Int), items[j]? = some (k, x) ∧ (Instr.lookup 71 (.map (some mb)) (encI k) true).run Try.prog w = .ok (.tuple #[encI x, .bool true]) w := by
  rcases hm.lookup koI Try.underlying71 (zeroII w) (x := encI k) (ikI k) true with ⟨hne, hrun⟩ | ⟨j, v, hj, hrun⟩
  · refine .inl ⟨fun h => ?_, by rw [hrun]; rfl⟩
    obtain ⟨it, hit, e⟩ := List.mem_map.1 h
    exact hne _ (List.mem_map.2 ⟨it, hit, rfl⟩) (by rw [← e])
  · rw [List.getElem?_map] at hj
    obtain ⟨it, hit, he⟩ := Option.map_eq_some_iff.1 hj
    simp only [Prod.mk.injEq] at he
    obtain ⟨he1, he2⟩ := he
    have := encI_inj _ _ he1
    subst this
    subst he2
    exact .inr ⟨j, it.2, hit, by rw [hrun]; rfl⟩

theorem Own.frozen {w : World} {e : TypeId} {sz g off n c : Nat} {xs : List Value} (h : Own w e sz (.slice (some ⟨g, off, none⟩) n c) n xs) (j : Nat) : w.frozen? ⟨g, j, none⟩ = false := by
  rcases h.2 with ⟨hv, _⟩ | ⟨g', off', cap, cur, hv, hg, _⟩
  · simp at hv
  · simp only [Value.slice.injEq, Option.some.injEq, Addr.mk.injEq, and_true, true_and] at hv
    obtain ⟨⟨rfl, rfl⟩, rfl⟩ := hv
    exact frozen_of hg

theorem FrIs.drewN {α β : Type} {eK : TypeId} {encK : α → Value} {encV : β → Value} {K : Value → Prop} {w : World} {f : Fr α β} (h : FrIs eK encK encV K w f) (n : Nat) : FrIs eK encK encV K (w.drewN n) f := h

section
variable {p : Value} {F : Nat → Prop} {fr : List (Fr (Int) (Int))} {f : Fr (Int) (Int)} {w : World}

set_option maxRecDepth 100000 in
set_option maxHeartbeats 1000000 in
theorem scopeBindII (h : ScopeII w p F (fr ++ [f])) (k : Int) (x : Int) (hf : Fits (f.items.length + 1) 8) :
    Calls Try.prog 10 #[p, encI k, encI x] w fun e w' =>
      (k ∈ f.keys ∧ e = .returned (.int .i64 5) ∧ Kept (fun _ => False) w w') ∨
      (k ∉ f.keys ∧ e = .returned (.int .i64 0) ∧ ∃ F' kv2, ScopeII w' p F' (fr ++ [⟨f.mb, kv2, f.items ++ [(k, x)]⟩]) ∧ Kept F w w' ∧ ∀ b, F' b → F b ∨ w.heap.size ≤ b) := by
  obtain ⟨sb, v, rfl, h1, h2, h3, h4, hF⟩ := h
  obtain ⟨g, off, c, hv, a1, a2, hcell, hfr, hgl⟩ := h2.elt (by simp)
  have c0 : w.cell? ⟨sb, 0, none⟩ = some v := cell_of h1 rfl
  have hcl := cells_length fr
  have c1 : w.cell? ⟨g, off + fr.length * 2, none⟩ = some (.map (some f.mb)) := hcell (fr.length * 2) _ (by rw [List.flatMap_append, List.getElem?_append_right (by omega), hcl]; simp [Fr.cells])
  have c2 : w.cell? ⟨g, off + fr.length * 2 + 1, none⟩ = some f.kv := hcell (fr.length * 2 + 1) _ (by rw [List.flatMap_append, List.getElem?_append_right (by omega), hcl, show fr.length * 2 + 1 - fr.length * 2 = 1 by omega]; simp [Fr.cells])
  have hff := h3 f (by simp)
  rw [hv] at c0
  simp only [List.length_append, List.length_singleton] at c0 a1
  unfold maxLen at a2
  have hw1 : (0 : Int) ≤ (fr.length : Int) := by omega
  have fz1 : w.frozen? ⟨g, off + fr.length * 2 + 1, none⟩ = false := hfr _
  have HV := Lib.hid hv
  have H1 := Lib.hid h1
  have H2 := Lib.hid h2
  have H3 := Lib.hid h3
  have H4 := Lib.hid h4
  have HF := Lib.hid hF
  have HFF := Lib.hid hff
  have HT := Lib.hid hf
  have hmax : f.items.length + 1 ≤ 9223372036854775807 := by have := hf.1; unfold maxLen at this; omega
  obtain ⟨ka, kc, hkv, k1, k2, k3⟩ := hff.2.1.shape
  have HKV := Lib.hid hkv
  rw [hkv] at c2
  rcases scopeLookII hff.1 k with ⟨hno, hlook⟩ | ⟨j, x', hit, hlook⟩
  · have HNO : Hid (k ∉ f.keys) := Lib.hid hno
    clear hfr hcell hcl h2 h3 h4 hF hff hf hno hv h1 k3 hkv
    unfold encI at hlook ⊢
    go_enter Try.func10, Try.ntmps10
    go_wp2_with fail
    go_quiet (fail)
    have B1 : (w.drewN nq).cell? ⟨g, off + fr.length * 2, none⟩ = some (.map (some f.mb)) := c1
    have B2 : (w.drewN nq).cell? ⟨g, off + fr.length * 2 + 1, none⟩ = some (.slice ka f.items.length kc) := c2
    have BZ : (w.drewN nq).frozen? ⟨g, off + fr.length * 2 + 1, none⟩ = false := fz1
    have BL : (Instr.lookup 71 (.map (some f.mb)) (Value.int .i64 k) true).run Try.prog (w.drewN nq) = .ok (.tuple #[(.int .i64 0), .bool false]) (w.drewN nq) := by
      rcases scopeLookII (w := w.drewN nq) HFF.out.1 k with ⟨_, h⟩ | ⟨j, x', hit, _⟩
      · exact h
      · exact absurd (List.mem_map.2 ⟨_, List.mem_of_getElem? hit, rfl⟩) HNO.out
    have BP : Hid (Kept (fun _ => False) w (w.drewN nq)) := Lib.hid ((Kept.refl _ w).drewN nq)
    have BF : Hid (FrIs 3 encI encI (MapKept.IsKey (.int .i64)) (w.drewN nq) f) := Lib.hid HFF.out
    have BI : Hid ((w.drewN nq).heap[sb]? = some (.cells #[v] 69 (0, 0))) := Lib.hid H1.out
    have B3 : Hid (∀ f' ∈ fr ++ [f], FrIs 3 encI encI (MapKept.IsKey (.int .i64)) (w.drewN nq) f') := Lib.hid H3.out
    have BO : Hid (Own (w.drewN nq) 73 2 v (fr ++ [f]).length ((fr ++ [f]).flatMap Fr.cells)) := Lib.hid H2.out
    clear c0 c1 c2 fz1 hlook
    generalize w.drewN nq = wB at B1 B2 BZ BL BP BF BI B3 BO ⊢
    have hgm : g ≠ f.mb := by
      have h := H4.out
      rw [HV.out] at h
      intro e
      have h5 := (List.nodup_append.1 (List.nodup_cons.1 h).2).2.2 f.mb (by simp [Fr.blocks]) g (by simp [Value.ownBlock])
      exact h5 e.symm
    have hgk : f.kv.ownBlock ≠ some g := by
      have h := H4.out
      rw [HV.out] at h
      intro e
      have h5 := (List.nodup_append.1 (List.nodup_cons.1 h).2).2.2 g (by simp [Fr.blocks, e]) g (by simp [Value.ownBlock])
      exact h5 rfl
    have hkm : f.kv.ownBlock ≠ some f.mb := by
      have h := (List.nodup_append.1 (List.nodup_cons.1 H4.out).2).1
      intro e
      rw [List.flatMap_append, List.nodup_append] at h
      have := h.2.1
      simp [Fr.blocks, e] at this
    rw [HKV.out] at hgk hkm
    have HGK := Lib.hid hgk
    have HKM := Lib.hid hkm
    clear hgk hkm
    go_wp2_with (first
      | (at_lookup; refine wpList_lookup_run rfl _ _ rfl rfl rfl BL ?_)
      | (at_mapUpdate; refine wpList_store_new (key := encI k) (u := encI x) koI Try.underlying71 rfl _ _ _ rfl rfl rfl rfl BF.out.1 (ikI _) (by
            intro q hq e
            obtain ⟨it, hit, rfl⟩ := List.mem_map.1 hq
            exact HNO.out (List.mem_map.2 ⟨it, hit, encI_inj _ _ e⟩)) ?_
         intro w1 hm1 hk1
         have M1 := Lib.hid hm1
         have K1 := Lib.hid hk1
         have d2 := hk1.cell B2 hgm
         have ov := BO.out.frame hk1 (fun b hb e => by rw [HV.out] at hb; simp [Value.ownBlock] at hb; exact hgm (hb.trans e))
         rw [HV.out] at ov
         have OV := Lib.hid ov
         clear ov
         have o1 := BF.out.2.1.frame hk1 (fun b hb e => by rw [HKV.out] at hb; exact HKM.out (by rw [hb, e]))
         rw [HKV.out] at o1
         have O1 := Lib.hid o1
         clear o1
         clear hm1 hk1)
      | (at_builtin; refine wpList_append slInt (v := .slice ka f.items.length kc) (vx := .slice (some ⟨w1.heap.size, 0, none⟩) 1 1) (news := (encI k).cells.toList) (m := 1) rfl _ _ rfl rfl rfl (O1.out.alloc _) (Own.rd (Own.fresh (n := 1) (by rfl) (by decide))) (by simp [encI, Value.cells, Value.oneCell']) HT.out ?_
         intro v2 w2 hown2 hk2 hb2 _
         obtain ⟨a2, c2, rfl, _, _, _⟩ := hown2.shape
         have g1 : g < w1.heap.size := World.block_lt_of_cell? _ _ d2
         have d3 : w2.cell? ⟨g, off + fr.length * 2 + 1, none⟩ = some (.slice ka f.items.length kc) := hk2.cell (((Below.refl w1.heap.size w1).alloc (Nat.le_refl _) _).cell g1 |>.trans d2) HGK.out
         have z3 : w2.frozen? ⟨g, off + fr.length * 2 + 1, none⟩ = false := ((OV.out.alloc _).frame hk2 (fun b hb h => by simp [Value.ownBlock] at hb; subst hb; exact HGK.out h)).frozen _
         have HO2 := Lib.hid hown2
         have HK2 := Lib.hid hk2
         have HB2 := Lib.hid hb2
         clear hown2 hk2 hb2))
    go_ret
    obtain ⟨F', r1, r2, r3⟩ := ScopeIs.bound (fr := fr) (f := f) (k := k) (x := x) HF.out BI.out HV.out BO.out B3.out H4.out HNO.out M1.out K1.out (by rw [HKV.out]; exact HK2.out) HO2.out (by rw [HKV.out]; exact HB2.out)
    have hs := BP.out.size
    exact .inr ⟨HNO.out, rfl, F', _, r1, (BP.out.mono (fun _ _ h => h.elim)).trans' r2 (fun i _ h => h), fun b hb => (r3 b hb).imp id (fun h => by omega)⟩
  · have HYES : Hid (k ∈ f.keys) := Lib.hid (List.mem_map.2 ⟨_, List.mem_of_getElem? hit, rfl⟩)
    have HIT := Lib.hid hit
    clear hfr hcell hcl h2 h3 h4 hF hff hf hv h1 k3 hkv hit
    unfold encI at hlook ⊢
    go_enter Try.func10, Try.ntmps10
    go_wp2_with fail
    go_quiet (fail)
    have B1 : (w.drewN nq).cell? ⟨g, off + fr.length * 2, none⟩ = some (.map (some f.mb)) := c1
    obtain ⟨yv, BL⟩ : ∃ yv, (Instr.lookup 71 (.map (some f.mb)) (Value.int .i64 k) true).run Try.prog (w.drewN nq) = .ok (.tuple #[yv, .bool true]) (w.drewN nq) := by
      rcases scopeLookII (w := w.drewN nq) HFF.out.1 k with ⟨hno, _⟩ | ⟨j, x', hit, h⟩
      · exact absurd HYES.out hno
      · exact ⟨_, h⟩
    have BP : Hid (Kept (fun _ => False) w (w.drewN nq)) := Lib.hid ((Kept.refl _ w).drewN nq)
    clear c0 c1 c2 fz1 hlook
    generalize w.drewN nq = wB at B1 BL BP ⊢
    go_wp2_with (at_lookup; refine wpList_lookup_run rfl _ _ rfl rfl rfl BL ?_)
    go_ret
    exact .inl ⟨HYES.out, rfl, BP.out⟩

end

end Go.Proofs.Ytllcklddfcclfaa
