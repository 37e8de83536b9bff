/- The scope's Close at one pair of types. -/
import Derived.Test.YtllcklddfcclfaaScopeST
import Derived.Test.YtllcklddfcclfaaScopeBST
namespace Go.Proofs.Ytllcklddfcclfaa
open Go.RowKit
set_option linter.unusedVariables false
set_option linter.unusedSimpArgs false

/-- Close: one frame fewer. -/
theorem ScopeIs.closed {α β : Type} {TS TF eK : TypeId} {encK : α → Value} {encV : β → Value} {K : Value → Prop} {w : World} {F : Nat → Prop} {fr : List (Fr α β)} {f : Fr α β} {sb g off c : Nat} {v : Value}
    (hF : ∀ b, F b ↔ b ∈ sb :: ((fr ++ [f]).flatMap Fr.blocks ++ v.ownBlock.toList)) (h1 : w.heap[sb]? = some (.cells #[v] TS (0, 0))) (hv : v = .slice (some ⟨g, off, none⟩) (fr ++ [f]).length c)
    (h2 : Own w TF 2 v (fr ++ [f]).length ((fr ++ [f]).flatMap Fr.cells)) (h3 : ∀ f' ∈ fr ++ [f], FrIs eK encK encV K w f') (h4 : (sb :: ((fr ++ [f]).flatMap Fr.blocks ++ v.ownBlock.toList)).Nodup) (hsg : sb ≠ g) :
    ∃ F', ScopeIs TS TF eK encK encV K (((w.setCell ⟨g, off + fr.length * 2, none⟩ (.map none)).setCell ⟨g, off + fr.length * 2 + 1, none⟩ (.slice none 0 0)).setCell ⟨sb, 0, none⟩ (.slice (some ⟨g, off, none⟩) fr.length c)) (.pointer (some ⟨sb, 0, none⟩)) F' fr ∧
      Kept F w (((w.setCell ⟨g, off + fr.length * 2, none⟩ (.map none)).setCell ⟨g, off + fr.length * 2 + 1, none⟩ (.slice none 0 0)).setCell ⟨sb, 0, none⟩ (.slice (some ⟨g, off, none⟩) fr.length c)) ∧ ∀ b, F' b → F b := by
  have hvb : v.ownBlock = some g := by rw [hv]; rfl
  have hk : Kept (fun b => b = sb ∨ b = g) w (((w.setCell ⟨g, off + fr.length * 2, none⟩ (.map none)).setCell ⟨g, off + fr.length * 2 + 1, none⟩ (.slice none 0 0)).setCell ⟨sb, 0, none⟩ (.slice (some ⟨g, off, none⟩) fr.length c)) :=
    (((Kept.refl _ w).setCell (fun _ => .inr rfl) _).setCell (fun _ => .inr rfl) _).setCell (fun _ => .inl rfl) _
  have hsub : (sb :: (fr.flatMap Fr.blocks ++ [g])).Sublist (sb :: ((fr ++ [f]).flatMap Fr.blocks ++ v.ownBlock.toList)) := by
    rw [hvb, List.flatMap_append, Option.toList_some]
    refine List.Sublist.cons_cons _ (List.Sublist.append_right ?_ _)
    exact List.sublist_append_left _ _
  have hnd := h4.sublist hsub
  refine ⟨fun b => b ∈ sb :: (fr.flatMap Fr.blocks ++ [g]), ⟨sb, .slice (some ⟨g, off, none⟩) fr.length c, rfl, ?_, ?_, ?_, hnd, fun _ => Iff.rfl⟩, ?_, fun b hb => (hF b).2 (hsub.subset hb)⟩
  · have e1 : ((w.setCell ⟨g, off + fr.length * 2, none⟩ (.map none)).setCell ⟨g, off + fr.length * 2 + 1, none⟩ (.slice none 0 0)).heap[sb]? = some (.cells #[v] TS (0, 0)) :=
      (heap_set_ne (p := ⟨g, off + fr.length * 2 + 1, none⟩) hsg _).trans ((heap_set_ne (p := ⟨g, off + fr.length * 2, none⟩) hsg _).trans h1)
    have := heap_set (o := 0) e1 (.slice (some ⟨g, off, none⟩) fr.length c)
    simpa using this
  · have h5 := h2
    rw [hv] at h5
    have h6 := ((h5.setAt (j := fr.length * 2) (by simp <;> omega) (.map none)).setAt (j := fr.length * 2 + 1) (by simp <;> omega) (.slice none 0 0)).sub (k := fr.length) (by simp)
    have hl := cells_length fr
    have e : ((((fr ++ [f]).flatMap Fr.cells).set (fr.length * 2) (.map none)).set (fr.length * 2 + 1) (.slice none 0 0)).take (fr.length * 2) = fr.flatMap Fr.cells := by
      rw [List.take_set_of_le (by omega), List.take_set_of_le (by omega), List.flatMap_append, ← hl, List.take_left]
    rw [e] at h6
    exact h6.setCell (fun h => by simp [Value.ownBlock] at h; exact hsg h.symm) _
  · intro f' hf'
    refine (h3 f' (List.mem_append_left _ hf')).frame hk (fun b hb h => ?_)
    have hmem : b ∈ fr.flatMap Fr.blocks := List.mem_flatMap.2 ⟨f', hf', hb⟩
    rcases h with rfl | rfl
    · exact (List.nodup_cons.1 hnd).1 (List.mem_append_left _ hmem)
    · exact (List.nodup_append.1 (List.nodup_cons.1 hnd).2).2.2 b hmem b (by simp) rfl
  · refine hk.mono (fun i _ h => (hF i).2 (hsub.subset ?_))
    rcases h with rfl | rfl <;> simp

section
variable {p : Value} {F : Nat → Prop} {fr : List (Fr (List UInt8) (Tok))} {f : Fr (List UInt8) (Tok)} {w : World}

theorem scopeClose1ST (h : ScopeST w p F [f]) :
    Calls Try.prog 26 #[p] w fun e w' => e = .returned (.int .i64 4) ∧ w = w' := by
  obtain ⟨sb, v, rfl, h1, h2, h3, h4, hF⟩ := h
  obtain ⟨a, c, rfl, a1, a2, a3⟩ := h2.shape
  have c0 : w.cell? ⟨sb, 0, none⟩ = some (.slice a 1 c) := cell_of h1 rfl
  clear h1 h2 h3 h4 hF a3
  go_enter Try.func26, Try.ntmps26
  go_wp2
  go_ret
  exact ⟨rfl, rfl⟩

set_option maxRecDepth 100000 in
set_option maxHeartbeats 1000000 in
theorem scopeCloseST (h : ScopeST w p F (fr ++ [f])) (h0 : 0 < fr.length) :
    Calls Try.prog 26 #[p] w fun e w' => e = .returned (.int .i64 0) ∧ ∃ F', ScopeST w' p F' fr ∧ Kept F w w' ∧ ∀ b, F' b → F b := by
  obtain ⟨sb, v, rfl, h1, h2, h3, h4, hF⟩ := h
  obtain ⟨g, off, c, hv, a1, a2, hcell, hfr, hgl⟩ := h2.elt (by simp)
  have c0 : w.cell? ⟨sb, 0, none⟩ = some v := cell_of h1 rfl
  have f0 : w.frozen? ⟨sb, 0, none⟩ = false := frozen_of h1
  have hcl := cells_length fr
  have c1 : w.cell? ⟨g, off + fr.length * 2, none⟩ = some (.map (some f.mb)) := hcell (fr.length * 2) _ (by rw [List.flatMap_append, List.getElem?_append_right (by omega), hcl]; simp [Fr.cells])
  have c2 : w.cell? ⟨g, off + fr.length * 2 + 1, none⟩ = some f.kv := hcell (fr.length * 2 + 1) _ (by rw [List.flatMap_append, List.getElem?_append_right (by omega), hcl, show fr.length * 2 + 1 - fr.length * 2 = 1 by omega]; simp [Fr.cells])
  have fz0 : w.frozen? ⟨g, off + fr.length * 2, none⟩ = false := hfr _
  have fz1 : w.frozen? ⟨g, off + fr.length * 2 + 1, none⟩ = false := hfr _
  have hsg : sb ≠ g := fun e => (List.nodup_cons.1 h4).1 (by rw [hv]; simp [Value.ownBlock, e])
  rw [hv] at c0
  simp only [List.length_append, List.length_singleton] at c0 a1
  unfold maxLen at a2
  have HV := Lib.hid hv
  have H1 := Lib.hid h1
  have H2 := Lib.hid h2
  have H3 := Lib.hid h3
  have H4 := Lib.hid h4
  have HF := Lib.hid hF
  have hw1 : (0 : Int) ≤ (fr.length : Int) := by omega
  have hne1 : ((fr.length : Int) + 1 == 1) = false := by simp; omega
  clear hv h1 h2 h3 h4 hF hcell hfr hcl
  go_enter Try.func26, Try.ntmps26
  go_wp2
  go_ret
  obtain ⟨F', r1, r2, r3⟩ := ScopeIs.closed HF.out H1.out HV.out H2.out H3.out H4.out hsg
  exact ⟨rfl, F', r1, r2, r3⟩
end

end Go.Proofs.Ytllcklddfcclfaa
