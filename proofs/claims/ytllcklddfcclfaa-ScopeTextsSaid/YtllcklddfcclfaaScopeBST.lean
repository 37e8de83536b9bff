/- The scope's Bind at texts and tokens (a value that lies in memory). -/
import Derived.Test.YtllcklddfcclfaaScopeST
import Derived.Deep.RegionWith
import Derived.StillTailTactics
namespace Go.Proofs.Ytllcklddfcclfaa
open Go.RowKit
set_option linter.unusedVariables false
set_option linter.unusedSimpArgs false

/-- The empty token. -/
def zTok : Value := .agg #[.int .i64 0, .string ⟨#[]⟩, .int .i64 0, .int .i64 0]

theorem zeroST (w : World) : (zeroValue 48).run Try.prog w = .ok zTok w := by kernel_rfl

theorem scopeLookST {w : World} {mb : Nat} {items : List (List UInt8 × Tok)} (hm : MapIs w (MapKept.IsKey .string) mb (items.map fun it => (encS it.1, encT it.2))) (k : List UInt8) :
    (k ∉ items.map (·.1) ∧ (Instr.lookup 84 (.map (some mb)) (encS k) true).run Try.prog w = .ok (.tuple #[zTok, .bool false]) w) ∨
      ∃ (j : Nat) (x : Tok), items[j]? = some (k, x) ∧ (Instr.lookup 84 (.map (some mb)) (encS k) true).run Try.prog w = .ok (.tuple #[encT x, .bool true]) w := by
  rcases hm.lookup koS Try.underlying84 (zeroST w) (x := encS k) (ikS k) true with ⟨hne, hrun⟩ | ⟨j, v, hj, hrun⟩
  · refine .inl ⟨fun h => ?_, by rw [hrun]; rfl⟩
    obtain ⟨it, hit, e⟩ := List.mem_map.1 h
    exact hne _ (List.mem_map.2 ⟨it, hit, rfl⟩) (by rw [← e])
  · rw [List.getElem?_map] at hj
    obtain ⟨it, hit, he⟩ := Option.map_eq_some_iff.1 hj
    simp only [Prod.mk.injEq] at he
    obtain ⟨he1, he2⟩ := he
    have := encS_inj _ _ he1
    subst this
    subst he2
    exact .inr ⟨j, it.2, hit, by rw [hrun]; rfl⟩

theorem Own.frozen {w : World} {e : TypeId} {sz g off n c : Nat} {xs : List Value} (h : Own w e sz (.slice (some ⟨g, off, none⟩) n c) n xs) (j : Nat) : w.frozen? ⟨g, j, none⟩ = false := by
  rcases h.2 with ⟨hv, _⟩ | ⟨g', off', cap, cur, hv, hg, _⟩
  · simp at hv
  · simp only [Value.slice.injEq, Option.some.injEq, Addr.mk.injEq, and_true, true_and] at hv
    obtain ⟨⟨rfl, rfl⟩, rfl⟩ := hv
    exact frozen_of hg

section
variable {p : Value} {F : Nat → Prop} {fr : List (Fr (List UInt8) Tok)} {f : Fr (List UInt8) Tok} {w : World}

set_option maxRecDepth 100000 in
set_option maxHeartbeats 2000000 in
theorem scopeBindST (h : ScopeST w p F (fr ++ [f])) (k : List UInt8) (x : Tok) (hf : Fits (f.items.length + 1) 16) :
    Calls Try.prog 27 #[p, encS k, encT x] w fun e w' =>
      (k ∈ f.keys ∧ e = .returned (.int .i64 5) ∧ Kept (fun _ => False) w w') ∨
      (k ∉ f.keys ∧ e = .returned (.int .i64 0) ∧ ∃ F' kv2, ScopeST w' p F' (fr ++ [⟨f.mb, kv2, f.items ++ [(k, x)]⟩]) ∧ Kept F w w' ∧ ∀ b, F' b → F b ∨ w.heap.size ≤ b) := by
  obtain ⟨sb, v, rfl, h1, h2, h3, h4, hF⟩ := h
  obtain ⟨g, off, c, hv, a1, a2, hcell, hfr, hgl⟩ := h2.elt (by simp)
  have HFF := Lib.hid (h3 f (by simp))
  obtain ⟨ka, kc, hkv, k1, k2, k3⟩ := HFF.out.2.1.shape
  have hcl := cells_length fr
  have HW : Hid (∀ wx, Kept (fun _ => False) w wx → wx.cell? ⟨sb, 0, none⟩ = some (.slice (some ⟨g, off, none⟩) (fr.length + 1) c) ∧ wx.cell? ⟨g, off + fr.length * 2, none⟩ = some (.map (some f.mb)) ∧ wx.cell? ⟨g, off + fr.length * 2 + 1, none⟩ = some (.slice ka f.items.length kc)) := Lib.hid fun wx hk => by
    refine ⟨hk.cell (cell_of h1 (by rw [hv]; simp)) id, hk.cell (hcell (fr.length * 2) _ ?_) id, hk.cell (hcell (fr.length * 2 + 1) _ ?_) id⟩
    · rw [List.flatMap_append, List.getElem?_append_right (by omega), hcl]; simp [Fr.cells]
    · rw [List.flatMap_append, List.getElem?_append_right (by omega), hcl, show fr.length * 2 + 1 - fr.length * 2 = 1 by omega]; simp [Fr.cells, hkv]
  simp only [List.length_append, List.length_singleton] at a1
  unfold maxLen at a2
  have hw1 : (0 : Int) ≤ (fr.length : Int) := by omega
  have HKV := Lib.hid hkv
  have HV := Lib.hid hv
  have H1 := Lib.hid h1
  have H2 := Lib.hid h2
  have H3 := Lib.hid h3
  have H4 := Lib.hid h4
  have HF := Lib.hid hF
  have HT := Lib.hid hf
  have hmax : f.items.length + 1 ≤ 9223372036854775807 := by have := hf.1; unfold maxLen at this; omega
  obtain ⟨x0, x1, x2, x3⟩ := x
  obtain ⟨S, hS⟩ : ∃ S : ByteArray, S = ⟨k.toArray⟩ := ⟨_, rfl⟩
  obtain ⟨T, hT⟩ : ∃ T : ByteArray, T = ⟨x1.toArray⟩ := ⟨_, rfl⟩
  have HEK : Hid (encS k = .string S) := Lib.hid (by rw [hS]; rfl)
  have HEX : Hid (encT (x0, x1, x2, x3) = .agg #[.int .i64 x0, .string T, .int .i64 x2, .int .i64 x3]) := Lib.hid (by rw [hT]; rfl)
  rw [HEK.out, HEX.out]
  have HBX : Hid ((w.alloc (.cells #[.int .i64 x0, .string T, .int .i64 x2, .int .i64 x3] 48)).heap[w.heap.size]? = some (.cells #[.int .i64 x0, .string T, .int .i64 x2, .int .i64 x3] 48)) := Lib.hid (by show (w.heap.push _)[w.heap.size]? = _; simp)
  have HKA := Lib.hid ((Kept.refl (fun _ => False) w).alloc (.cells #[.int .i64 x0, .string T, .int .i64 x2, .int .i64 x3] 48))
  obtain ⟨c0, _, _⟩ := HW.out _ HKA.out
  clear h1 h2 h3 h4 hF hf hv hkv k3 hcell hfr hcl hS hT
  go_enter Try.func27, Try.ntmps27
  go_wp2_with fail
  go_quiet (fail)
  have HKB := Lib.hid (HKA.out.drewN nq)
  have HBB : Hid (((w.alloc (.cells #[.int .i64 x0, .string T, .int .i64 x2, .int .i64 x3] 48)).drewN nq).heap[w.heap.size]? = some (.cells #[.int .i64 x0, .string T, .int .i64 x2, .int .i64 x3] 48)) := Lib.hid HBX.out
  clear c0 HBX HKA
  change Hid (Kept (fun _ => False) w ((w.alloc (.cells #[.int .i64 x0, .string T, .int .i64 x2, .int .i64 x3] 48)).drewN nq)) at HKB
  generalize (w.alloc (.cells #[.int .i64 x0, .string T, .int .i64 x2, .int .i64 x3] 48)).drewN nq = wB at HKB HBB ⊢
  obtain ⟨_, c1, c2⟩ := HW.out _ HKB.out
  rcases scopeLookST (w := wB) (HFF.out.1.frame HKB.out id) k with ⟨hno, hlook⟩ | ⟨j, x', hit, hlook⟩
  · have HNO : Hid (k ∉ f.keys) := Lib.hid hno
    rw [HEK.out] at hlook
    unfold zTok at hlook
    clear hno c2
    go_wp2_with (at_lookup; refine wpList_lookup_run rfl _ _ rfl rfl rfl hlook ?_)
    have HKC : Hid (Kept (fun _ => False) w (wB.alloc (.cells #[.int .i64 0, .string ⟨#[]⟩, .int .i64 0, .int .i64 0] 48))) := Lib.hid (HKB.out.alloc _)
    have HBC := Lib.hid (heap_alloc HBB.out (.cells #[.int .i64 0, .string ⟨#[]⟩, .int .i64 0, .int .i64 0] 48))
    clear c1 hlook HBB HKB
    generalize wB.alloc (.cells #[.int .i64 0, .string ⟨#[]⟩, .int .i64 0, .int .i64 0] 48) = wC at HKC HBC ⊢
    obtain ⟨_, c1, c2⟩ := HW.out _ HKC.out
    have e0 : wC.cell? ⟨w.heap.size, 0, none⟩ = _ := cell_of HBC.out rfl
    have e1 : wC.cell? ⟨w.heap.size, 1, none⟩ = _ := cell_of HBC.out rfl
    have e2 : wC.cell? ⟨w.heap.size, 2, none⟩ = _ := cell_of HBC.out rfl
    have e3 : wC.cell? ⟨w.heap.size, 3, none⟩ = _ := cell_of HBC.out rfl
    go_still_tail 6, (by kernel_rfl)
    change wpList _ _ _ _ _ wC.drew
    have HKD : Hid (Kept (fun _ => False) w wC.drew) := Lib.hid HKC.out.drew
    clear c1 c2 e0 e1 e2 e3 HBC HKC
    generalize wC.drew = wD at HKD ⊢
    have hvs : v = .slice (some ⟨g, off, none⟩) (fr ++ [f]).length c := HV.out
    have BF : FrIs 9 encS encT (MapKept.IsKey .string) wD f := HFF.out.frame HKD.out (fun _ _ => id)
    have BI := Lib.hid ((HKD.out.block sb (heap_lt H1.out) id).trans H1.out)
    have B3 : Hid (∀ f' ∈ fr ++ [f], FrIs 9 encS encT (MapKept.IsKey .string) wD f') := Lib.hid fun f' hf' => (H3.out f' hf').frame HKD.out (fun _ _ => id)
    have BO := Lib.hid (H2.out.frame HKD.out (fun _ _ => id))
    obtain ⟨_, _, c2⟩ := HW.out _ HKD.out
    have hgm : g ≠ f.mb := by
      have h := H4.out
      rw [HV.out] at h
      intro e
      have h5 := (List.nodup_append.1 (List.nodup_cons.1 h).2).2.2 f.mb (by simp [Fr.blocks]) g (by simp [Value.ownBlock])
      exact h5 e.symm
    have hgk : f.kv.ownBlock ≠ some g := by
      have h := H4.out
      rw [HV.out] at h
      intro e
      have h5 := (List.nodup_append.1 (List.nodup_cons.1 h).2).2.2 g (by simp [Fr.blocks, e]) g (by simp [Value.ownBlock])
      exact h5 rfl
    have hkm : f.kv.ownBlock ≠ some f.mb := by
      have h := (List.nodup_append.1 (List.nodup_cons.1 H4.out).2).1
      intro e
      rw [List.flatMap_append, List.nodup_append] at h
      have := h.2.1
      simp [Fr.blocks, e] at this
    rw [HKV.out] at hgk hkm
    have HGK := Lib.hid hgk
    have HKM := Lib.hid hkm
    clear hgk hkm hvs
    refine wpList_store_new (key := .string S) (u := .agg #[.int .i64 x0, .string T, .int .i64 x2, .int .i64 x3]) koS Try.underlying84 rfl _ _ _ rfl rfl rfl rfl BF.1 (by rw [← HEK.out]; exact ikS _) (by
      intro q hq e
      obtain ⟨it, hit, rfl⟩ := List.mem_map.1 hq
      rw [← HEK.out] at e
      exact HNO.out (List.mem_map.2 ⟨it, hit, encS_inj _ _ e⟩)) ?_
    intro w1 hm1 hk1
    rw [← HEK.out, ← HEX.out] at hm1
    have M1 := Lib.hid hm1
    have K1 := Lib.hid hk1
    have d2 := hk1.cell c2 hgm
    have ov := BO.out.frame hk1 (fun b hb e => by rw [HV.out] at hb; simp [Value.ownBlock] at hb; exact hgm (hb.trans e))
    rw [HV.out] at ov
    have OV := Lib.hid ov
    have o1 := BF.2.1.frame hk1 (fun b hb e => by rw [HKV.out] at hb; exact HKM.out (by rw [hb, e]))
    rw [HKV.out] at o1
    have O1 := Lib.hid o1
    clear ov o1 hm1 hk1 BF c2 hgm
    go_wp2_with (first
      | (at_builtin; refine wpList_append slStr (v := .slice ka f.items.length kc) (vx := .slice (some ⟨w1.heap.size, 0, none⟩) 1 1) (news := [.string S]) (m := 1) rfl _ _ rfl rfl rfl (O1.out.alloc _) (Own.rd (Own.fresh (n := 1) (by rfl) (by decide))) (by simp [Value.oneCell']) HT.out ?_
         intro v2 w2 hown2 hk2 hb2 _
         obtain ⟨a2, c2, rfl, _, _, _⟩ := hown2.shape
         have g1 : g < w1.heap.size := World.block_lt_of_cell? _ _ d2
         have d3 : w2.cell? ⟨g, off + fr.length * 2 + 1, none⟩ = some (.slice ka f.items.length kc) := hk2.cell (((Below.refl w1.heap.size w1).alloc (Nat.le_refl _) _).cell g1 |>.trans d2) HGK.out
         have z3 : w2.frozen? ⟨g, off + fr.length * 2 + 1, none⟩ = false := ((OV.out.alloc _).frame hk2 (fun b hb h => by simp [Value.ownBlock] at hb; subst hb; exact HGK.out h)).frozen _
         have HO2 := Lib.hid hown2
         have HK2 := Lib.hid hk2
         have HB2 := Lib.hid hb2
         clear hown2 hk2 hb2))
    go_ret
    obtain ⟨F', r1, r2, r3⟩ := ScopeIs.bound (fr := fr) (f := f) (k := k) (x := (x0, x1, x2, x3)) HF.out BI.out HV.out BO.out B3.out H4.out HNO.out M1.out K1.out (by rw [HKV.out]; exact HK2.out) (by rw [HEK.out]; exact HO2.out) (by rw [HKV.out]; exact HB2.out)
    have hs := HKD.out.size
    exact .inr ⟨HNO.out, rfl, F', _, r1, (HKD.out.mono (fun _ _ h => h.elim)).trans' r2 (fun i _ h => h), fun b hb => (r3 b hb).imp id (fun h => by omega)⟩
  · have HYES : Hid (k ∈ f.keys) := Lib.hid (List.mem_map.2 ⟨_, List.mem_of_getElem? hit, rfl⟩)
    rw [HEK.out] at hlook
    obtain ⟨y0, y1, y2, y3⟩ := x'
    obtain ⟨U, hU⟩ : ∃ U : ByteArray, U = ⟨y1.toArray⟩ := ⟨_, rfl⟩
    have hEY : encT (y0, y1, y2, y3) = .agg #[.int .i64 y0, .string U, .int .i64 y2, .int .i64 y3] := by rw [hU]; rfl
    rw [hEY] at hlook
    clear hit c2 hU hEY
    go_wp2_with (at_lookup; refine wpList_lookup_run rfl _ _ rfl rfl rfl hlook ?_)
    go_ret
    exact .inl ⟨HYES.out, rfl, HKB.out.alloc _⟩

end

end Go.Proofs.Ytllcklddfcclfaa
