/- What a scope in memory holds (plain; over whatever program): frames, each a map and the keys in their order. -/
import Derived.Test.YtllcklddfcclfaaIdxIs
namespace Go.Proofs.Ytllcklddfcclfaa
open Go.RowKit
set_option linter.unusedVariables false
set_option linter.unusedSimpArgs false

/-- A frame: the map's block, the keys' slice, and what is bound. -/
structure Fr (α β : Type) where
  mb : Nat
  kv : Value
  items : List (α × β)

section
variable {α β : Type}

def Fr.blocks (f : Fr α β) : List Nat := f.mb :: f.kv.ownBlock.toList
def Fr.cells (f : Fr α β) : List Value := [.map (some f.mb), f.kv]
def Fr.keys (f : Fr α β) : List α := f.items.map (·.1)

theorem cells_length (fr : List (Fr α β)) : (fr.flatMap Fr.cells).length = fr.length * 2 := by
  induction fr with
  | nil => rfl
  | cons a r ih =>
    rw [List.flatMap_cons, List.length_append, ih]
    simp [Fr.cells]
    omega

def FrIs (eK : TypeId) (encK : α → Value) (encV : β → Value) (K : Value → Prop) (w : World) (f : Fr α β) : Prop :=
  MapIs w K f.mb (f.items.map fun it => (encK it.1, encV it.2)) ∧ Own w eK 1 f.kv f.items.length (cellsOf encK f.keys) ∧ f.keys.Nodup

/-- p points at a scope that holds the frames fr; F: its blocks. -/
def ScopeIs (TS TF eK : TypeId) (encK : α → Value) (encV : β → Value) (K : Value → Prop) (w : World) (p : Value) (F : Nat → Prop) (fr : List (Fr α β)) : Prop :=
  ∃ sb v, p = .pointer (some ⟨sb, 0, none⟩) ∧ w.heap[sb]? = some (.cells #[v] TS (0, 0)) ∧ Own w TF 2 v fr.length (fr.flatMap Fr.cells) ∧ (∀ f ∈ fr, FrIs eK encK encV K w f) ∧
    (sb :: (fr.flatMap Fr.blocks ++ v.ownBlock.toList)).Nodup ∧ ∀ b, F b ↔ b ∈ sb :: (fr.flatMap Fr.blocks ++ v.ownBlock.toList)

theorem FrIs.frame {eK : TypeId} {encK : α → Value} {encV : β → Value} {K : Value → Prop} {w w' : World} {f : Fr α β} {G : Nat → Prop} (h : FrIs eK encK encV K w f) (hk : Kept G w w') (hd : ∀ b ∈ f.blocks, ¬ G b) : FrIs eK encK encV K w' f :=
  ⟨h.1.frame hk (hd _ (by simp [Fr.blocks])), h.2.1.frame hk (fun b hb => hd b (by simp [Fr.blocks, hb])), h.2.2⟩

theorem FrIs.lt {eK : TypeId} {encK : α → Value} {encV : β → Value} {K : Value → Prop} {w : World} {f : Fr α β} (h : FrIs eK encK encV K w f) {b : Nat} (hb : b ∈ f.blocks) : b < w.heap.size := by
  rcases List.mem_cons.1 hb with rfl | hb
  · exact h.1.lt
  · exact h.2.1.lt (by simpa using hb)

variable {TS TF eK : TypeId} {encK : α → Value} {encV : β → Value} {K : Value → Prop} {w : World} {p : Value} {F : Nat → Prop} {fr : List (Fr α β)}

theorem ScopeIs.lt (h : ScopeIs TS TF eK encK encV K w p F fr) {b : Nat} (hb : F b) : b < w.heap.size := by
  obtain ⟨sb, v, rfl, h1, h2, h3, h4, hF⟩ := h
  rcases List.mem_cons.1 ((hF b).1 hb) with rfl | hb
  · exact heap_lt h1
  · rcases List.mem_append.1 hb with hb | hb
    · obtain ⟨f, hf, hb⟩ := List.mem_flatMap.1 hb
      exact (h3 f hf).lt hb
    · exact h2.lt (by simpa using hb)

theorem ScopeIs.frame {w' : World} {G : Nat → Prop} (h : ScopeIs TS TF eK encK encV K w p F fr) (hk : Kept G w w') (hd : ∀ b, F b → ¬ G b) : ScopeIs TS TF eK encK encV K w' p F fr := by
  obtain ⟨sb, v, rfl, h1, h2, h3, h4, hF⟩ := h
  have hd' : ∀ b ∈ sb :: (fr.flatMap Fr.blocks ++ v.ownBlock.toList), ¬ G b := fun b hb => hd b ((hF b).2 hb)
  refine ⟨sb, v, rfl, (hk.block sb (heap_lt h1) (hd' _ (by simp))).trans h1, h2.frame hk (fun b hb => hd' b (by simp [hb])), fun f hf => (h3 f hf).frame hk (fun b hb => hd' b ?_), h4, hF⟩
  simp only [List.mem_cons, List.mem_append, List.mem_flatMap]
  exact .inr (.inl ⟨f, hf, hb⟩)

/-- The last block changed for itself or a new one. -/
theorem nodup_swap {A : List Nat} {o o' : Option Nat} {B : Nat} (h : (A ++ o.toList).Nodup) (hlt : ∀ a ∈ A, a < B) (ho : ∀ b, o' = some b → o = some b ∨ B ≤ b) : (A ++ o'.toList).Nodup := by
  cases ho' : o' with
  | none => simpa using (List.nodup_append.1 h).1
  | some b =>
    rcases ho b ho' with h1 | h1
    · rw [← h1]; exact h
    · rw [List.nodup_append]
      refine ⟨(List.nodup_append.1 h).1, by simp, fun a ha c hc e => ?_⟩
      simp at hc
      have := hlt a ha
      omega

/-- Open: one empty frame more. -/
theorem ScopeIs.opened {w2 : World} {sb : Nat} {v v2 : Value} {o : Obj} (hF : ∀ b, F b ↔ b ∈ sb :: (fr.flatMap Fr.blocks ++ v.ownBlock.toList))
    (h1 : w.heap[sb]? = some (.cells #[v] TS (0, 0))) (h2 : Own w TF 2 v fr.length (fr.flatMap Fr.cells)) (h3 : ∀ f ∈ fr, FrIs eK encK encV K w f) (h4 : (sb :: (fr.flatMap Fr.blocks ++ v.ownBlock.toList)).Nodup)
    (hk2 : Kept (fun b => v.ownBlock = some b) ((w.alloc (.map #[] 0)).alloc o) w2) (hown2 : Own w2 TF 2 v2 (fr.length + 1) (fr.flatMap Fr.cells ++ [.map (some w.heap.size), .slice none 0 0]))
    (hb2 : ∀ b, v2.ownBlock = some b → v.ownBlock = some b ∨ ((w.alloc (.map #[] 0)).alloc o).heap.size ≤ b) (e2 : w2.heap[sb]? = some (.cells #[v] TS (0, 0))) :
    ∃ F', ScopeIs TS TF eK encK encV K (w2.setCell ⟨sb, 0, none⟩ v2) (.pointer (some ⟨sb, 0, none⟩)) F' (fr ++ [⟨w.heap.size, .slice none 0 0, []⟩]) ∧ Kept F w (w2.setCell ⟨sb, 0, none⟩ v2) ∧ ∀ b, F' b → F b ∨ w.heap.size ≤ b := by
  have hlt : ∀ b ∈ sb :: (fr.flatMap Fr.blocks ++ v.ownBlock.toList), b < w.heap.size := fun b hb => (show ScopeIs TS TF eK encK encV K w (.pointer (some ⟨sb, 0, none⟩)) F fr from ⟨sb, v, rfl, h1, h2, h3, h4, hF⟩).lt ((hF b).2 hb)
  have hs2 := hk2.size
  simp at hs2
  have hsb : ∀ b, v2.ownBlock = some b → b ≠ sb := fun b hb e => by
    rcases hb2 b hb with h | h
    · subst e
      have := List.nodup_cons.1 h4
      exact this.1 (by simp [h])
    · have := hlt sb (by simp)
      simp at h
      omega
  have hk3 : Kept (fun b => b = sb ∨ v.ownBlock = some b) w (w2.setCell ⟨sb, 0, none⟩ v2) :=
    (((((Kept.refl _ w).alloc _).alloc _).trans' hk2 (fun i _ h => .inr h)).setCell (fun _ => .inl rfl) _)
  refine ⟨fun b => b ∈ sb :: ((fr ++ [(⟨w.heap.size, .slice none 0 0, []⟩ : Fr α β)]).flatMap Fr.blocks ++ v2.ownBlock.toList), ⟨sb, v2, rfl, ?_, ?_, ?_, ?_, fun _ => Iff.rfl⟩, ?_, ?_⟩
  · have := heap_set (o := 0) e2 v2
    simpa using this
  · rw [List.length_append, List.flatMap_append]
    exact hown2.setCell (fun h => hsb sb h rfl) _
  · intro f hf
    rcases List.mem_append.1 hf with hf | hf
    · refine (h3 f hf).frame hk3 (fun b hb h => ?_)
      have hmem : b ∈ fr.flatMap Fr.blocks := List.mem_flatMap.2 ⟨f, hf, hb⟩
      rcases h with rfl | h
      · exact (List.nodup_cons.1 h4).1 (by simp [hmem])
      · have := (List.nodup_append.1 (List.nodup_cons.1 h4).2).2.2 b hmem b (by simp [h])
        exact this rfl
    · simp only [List.mem_singleton] at hf
      subst hf
      refine ⟨?_, Own.nil _ _ _, by simp [Fr.keys]⟩
      have hm : MapIs w2 K w.heap.size [] := ((MapIs.made w K).kept (Below.heap_alloc _ _ _ (by simp))).frame hk2 (fun h => by have := h2.lt h; omega)
      exact hm.kept (heap_set_ne (fun e => by have := hlt sb (by simp); simp only at e; omega) _)
  · have hperm : (sb :: ((fr ++ [(⟨w.heap.size, .slice none 0 0, []⟩ : Fr α β)]).flatMap Fr.blocks ++ v2.ownBlock.toList)) = (sb :: fr.flatMap Fr.blocks ++ [w.heap.size]) ++ v2.ownBlock.toList := by
      simp [Fr.blocks, Value.ownBlock]
    rw [hperm]
    refine nodup_swap (o := v.ownBlock) (B := ((w.alloc (.map #[] 0)).alloc o).heap.size) ?_ ?_ hb2
    · have hp : List.Perm ((sb :: fr.flatMap Fr.blocks ++ [w.heap.size]) ++ v.ownBlock.toList) ((sb :: (fr.flatMap Fr.blocks ++ v.ownBlock.toList)) ++ [w.heap.size]) := by
        rw [List.append_assoc, ← List.cons_append, List.append_assoc]
        exact List.Perm.append_left _ List.perm_append_comm
      rw [hp.nodup_iff, List.nodup_append]
      exact ⟨h4, by simp, fun a ha b hb e => by simp at hb; have := hlt a ha; omega⟩
    · intro a ha
      simp only [List.mem_append, List.mem_singleton] at ha
      simp
      rcases ha with ha | rfl
      · have := hlt a (by simp only [List.mem_cons, List.mem_append] at ha ⊢; exact ha.elim .inl (fun h => .inr (.inl h)))
        omega
      · omega
  · exact hk3.mono (fun i _ h => (hF i).2 (by rcases h with rfl | h <;> simp_all))
  · intro b hb
    have hnil : (⟨w.heap.size, .slice none 0 0, []⟩ : Fr α β).blocks = [w.heap.size] := rfl
    simp only [List.mem_cons, List.mem_append, List.flatMap_append, List.flatMap_cons, List.flatMap_nil, List.append_nil, hnil, List.not_mem_nil, or_false, Option.mem_toList, Option.mem_def] at hb
    rcases hb with rfl | (hb | rfl) | hb
    · exact .inl ((hF _).2 (by simp))
    · exact .inl ((hF _).2 (by simp only [List.mem_cons, List.mem_append]; exact .inr (.inl hb)))
    · exact .inr (Nat.le_refl _)
    · rcases hb2 b hb with h | h
      · exact .inl ((hF _).2 (by simp [h]))
      · simp at h
        exact .inr (by omega)

/-- Bind: one thing more in the last frame. -/
theorem ScopeIs.bound {w1 w2 : World} {sb : Nat} {v : Value} {o : Obj} {f : Fr α β} {kv2 : Value} {k : α} {x : β} {g off c : Nat} (hF : ∀ b, F b ↔ b ∈ sb :: ((fr ++ [f]).flatMap Fr.blocks ++ v.ownBlock.toList))
    (h1 : w.heap[sb]? = some (.cells #[v] TS (0, 0))) (hv : v = .slice (some ⟨g, off, none⟩) (fr ++ [f]).length c) (h2 : Own w TF 2 v (fr ++ [f]).length ((fr ++ [f]).flatMap Fr.cells)) (h3 : ∀ f' ∈ fr ++ [f], FrIs eK encK encV K w f') (h4 : (sb :: ((fr ++ [f]).flatMap Fr.blocks ++ v.ownBlock.toList)).Nodup)
    (hnew : k ∉ f.keys) (hm1 : MapIs w1 K f.mb (f.items.map (fun it => (encK it.1, encV it.2)) ++ [(encK k, encV x)])) (hk1 : Kept (fun i => i = f.mb) w w1)
    (hk2 : Kept (fun b => f.kv.ownBlock = some b) (w1.alloc o) w2) (hown2 : Own w2 eK 1 kv2 (f.items.length + 1) (cellsOf encK f.keys ++ (encK k).cells.toList))
    (hb2 : ∀ b, kv2.ownBlock = some b → f.kv.ownBlock = some b ∨ (w1.alloc o).heap.size ≤ b) :
    ∃ F', ScopeIs TS TF eK encK encV K (w2.setCell ⟨g, off + (fr.length * 2 + 1), none⟩ kv2) (.pointer (some ⟨sb, 0, none⟩)) F' (fr ++ [⟨f.mb, kv2, f.items ++ [(k, x)]⟩]) ∧ Kept F w (w2.setCell ⟨g, off + (fr.length * 2 + 1), none⟩ kv2) ∧ ∀ b, F' b → F b ∨ w.heap.size ≤ b := by
  have hlt : ∀ b ∈ sb :: ((fr ++ [f]).flatMap Fr.blocks ++ v.ownBlock.toList), b < w.heap.size := fun b hb => (show ScopeIs TS TF eK encK encV K w (.pointer (some ⟨sb, 0, none⟩)) F (fr ++ [f]) from ⟨sb, v, rfl, h1, h2, h3, h4, hF⟩).lt ((hF b).2 hb)
  have hs1 := hk1.size
  have hs2 := hk2.size
  simp at hs2
  have hvb : v.ownBlock = some g := by rw [hv]; rfl
  -- all blocks, the last frame's keys behind
  have hperm : List.Perm (sb :: ((fr ++ [f]).flatMap Fr.blocks ++ v.ownBlock.toList)) ((sb :: (fr.flatMap Fr.blocks ++ [f.mb, g])) ++ f.kv.ownBlock.toList) := by
    rw [hvb]
    simp only [List.flatMap_append, List.flatMap_cons, List.flatMap_nil, List.append_nil, Fr.blocks, List.cons_append, List.append_assoc, Option.toList_some]
    refine List.Perm.cons _ (List.Perm.append_left _ (List.Perm.cons _ ?_))
    exact List.perm_append_comm
  have hnd := hperm.nodup_iff.1 h4
  have hA : ∀ b, b ∈ sb :: (fr.flatMap Fr.blocks ++ [f.mb, g]) → b < w.heap.size := fun b hb => hlt b (hperm.symm.subset (List.mem_append_left _ hb))
  have hnd0 := (List.nodup_append.1 hnd).1
  have hkvA : ∀ b, f.kv.ownBlock = some b → b ∉ sb :: (fr.flatMap Fr.blocks ++ [f.mb, g]) := fun b hb hm => (List.nodup_append.1 hnd).2.2 b hm b (by simp [hb]) rfl
  have hkv2A : ∀ b, kv2.ownBlock = some b → b ∉ sb :: (fr.flatMap Fr.blocks ++ [f.mb, g]) := fun b hb hm => by
    rcases hb2 b hb with h | h
    · exact hkvA b h hm
    · have := hA b hm
      simp at h
      omega
  have hsbmb : sb ≠ f.mb := fun e => (List.nodup_cons.1 hnd0).1 (by simp [e])
  have hsbg : sb ≠ g := fun e => (List.nodup_cons.1 hnd0).1 (by simp [e])
  have hgmb : f.mb ≠ g := fun e => by
    have h := (List.nodup_append.1 (List.nodup_cons.1 hnd0).2).2.1
    simp [e] at h
  have hfrA : ∀ b ∈ fr.flatMap Fr.blocks, b ≠ f.mb ∧ b ≠ g := fun b hb => by
    have h := (List.nodup_append.1 (List.nodup_cons.1 hnd0).2).2.2 b hb
    exact ⟨h f.mb (by simp), h g (by simp)⟩
  have hk3 : Kept (fun b => b = f.mb ∨ f.kv.ownBlock = some b ∨ b = g) w (w2.setCell ⟨g, off + (fr.length * 2 + 1), none⟩ kv2) :=
    ((((hk1.mono (fun _ _ h => .inl h)).alloc o).trans' hk2 (fun i _ h => .inr (.inl h))).setCell (fun _ => .inr (.inr rfl)) _)
  have hkA : Kept (fun b => b = f.mb ∨ f.kv.ownBlock = some b) w w2 := ((hk1.mono (fun _ _ h => .inl h)).alloc o).trans' hk2 (fun i _ h => .inr h)
  refine ⟨fun b => b ∈ sb :: ((fr ++ [(⟨f.mb, kv2, f.items ++ [(k, x)]⟩ : Fr α β)]).flatMap Fr.blocks ++ v.ownBlock.toList), ⟨sb, v, rfl, ?_, ?_, ?_, ?_, fun _ => Iff.rfl⟩, ?_, ?_⟩
  · refine (hk3.block sb (hA _ (by simp)) ?_).trans h1
    rintro (h | h | h)
    · exact hsbmb h
    · exact hkvA _ h (by simp)
    · exact hsbg h
  · have h5 : Own w2 TF 2 v (fr ++ [f]).length ((fr ++ [f]).flatMap Fr.cells) := h2.frame hkA (fun b hb h => by
      rw [hvb] at hb
      cases hb
      rcases h with h | h
      · exact hgmb h.symm
      · exact hkvA _ h (by simp))
    rw [hv] at h5 ⊢
    have h6 := h5.setAt (j := fr.length * 2 + 1) (by simp; omega) kv2
    have e : ((fr ++ [f]).flatMap Fr.cells).set (fr.length * 2 + 1) kv2 = (fr ++ [(⟨f.mb, kv2, f.items ++ [(k, x)]⟩ : Fr α β)]).flatMap Fr.cells := by
      have hl := cells_length fr
      rw [List.flatMap_append, List.flatMap_append, List.set_append_right _ _ (by omega), hl, show fr.length * 2 + 1 - fr.length * 2 = 1 by omega]
      simp [Fr.cells]
    rw [e] at h6
    simpa using h6
  · intro f' hf'
    rcases List.mem_append.1 hf' with hf' | hf'
    · refine (h3 f' (List.mem_append_left _ hf')).frame hk3 (fun b hb h => ?_)
      have hmem : b ∈ fr.flatMap Fr.blocks := List.mem_flatMap.2 ⟨f', hf', hb⟩
      rcases h with h | h | h
      · exact (hfrA b hmem).1 h
      · exact hkvA b h (by simp only [List.mem_cons, List.mem_append]; exact .inr (.inl hmem))
      · exact (hfrA b hmem).2 h
    · simp only [List.mem_singleton] at hf'
      subst hf'
      refine ⟨?_, ?_, ?_⟩
      · have hm2 : MapIs w2 K f.mb (f.items.map (fun it => (encK it.1, encV it.2)) ++ [(encK k, encV x)]) := (hm1.kept (Below.heap_alloc _ _ _ hm1.lt)).frame hk2 (fun h => hkvA _ h (by simp))
        simp only [List.map_append, List.map_cons, List.map_nil]
        exact hm2.kept (heap_set_ne hgmb _)
      · simp only [List.length_append, List.length_singleton, Fr.keys, List.map_append, List.map_cons, List.map_nil, cellsOf_append, cellsOf_one]
        refine hown2.setCell (fun h => hkv2A _ h (by simp)) _
      · simp only [Fr.keys, List.map_append, List.map_cons, List.map_nil]
        refine List.nodup_append.2 ⟨(h3 f (by simp)).2.2, by simp, fun a ha b hb e => ?_⟩
        simp at hb
        subst hb
        subst e
        exact hnew ha
  · have hperm2 : List.Perm (sb :: ((fr ++ [(⟨f.mb, kv2, f.items ++ [(k, x)]⟩ : Fr α β)]).flatMap Fr.blocks ++ v.ownBlock.toList)) ((sb :: (fr.flatMap Fr.blocks ++ [f.mb, g])) ++ kv2.ownBlock.toList) := by
      rw [hvb]
      simp only [List.flatMap_append, List.flatMap_cons, List.flatMap_nil, List.append_nil, Fr.blocks, List.cons_append, List.append_assoc, Option.toList_some]
      refine List.Perm.cons _ (List.Perm.append_left _ (List.Perm.cons _ ?_))
      exact List.perm_append_comm
    rw [hperm2.nodup_iff]
    exact nodup_swap hnd (fun a ha => by have := hA a ha; simp; omega) hb2
  · refine hk3.mono (fun i _ h => (hF i).2 (hperm.symm.subset ?_))
    rcases h with h | h | h
    · simp [h]
    · simp [h]
    · simp [h]
  · intro b hb
    have hb' : b ∈ (sb :: (fr.flatMap Fr.blocks ++ [f.mb, g])) ++ kv2.ownBlock.toList := by
      have hperm2 : List.Perm (sb :: ((fr ++ [(⟨f.mb, kv2, f.items ++ [(k, x)]⟩ : Fr α β)]).flatMap Fr.blocks ++ v.ownBlock.toList)) ((sb :: (fr.flatMap Fr.blocks ++ [f.mb, g])) ++ kv2.ownBlock.toList) := by
        rw [hvb]
        simp only [List.flatMap_append, List.flatMap_cons, List.flatMap_nil, List.append_nil, Fr.blocks, List.cons_append, List.append_assoc, Option.toList_some]
        refine List.Perm.cons _ (List.Perm.append_left _ (List.Perm.cons _ ?_))
        exact List.perm_append_comm
      exact hperm2.subset hb
    rcases List.mem_append.1 hb' with h | h
    · exact .inl ((hF b).2 (hperm.symm.subset (List.mem_append_left _ h)))
    · rcases hb2 b (by simpa using h) with h | h
      · exact .inl ((hF b).2 (hperm.symm.subset (List.mem_append_right _ (by simp [h]))))
      · simp at h
        exact .inr (by omega)

end

end Go.Proofs.Ytllcklddfcclfaa
