/- The scope (of structs by texts) and the reference side by side: contracts by contents. -/
import Derived.Test.YtllcklddfcclfaaScopeHST
import Derived.Test.YtllcklddfcclfaaScopeCST
import Derived.Test.YtllcklddfcclfaaScopeFST
import Derived.Test.YtllcklddfcclfaaScopeTie
namespace Go.Proofs.Ytllcklddfcclfaa
open Go.RowKit
set_option linter.unusedVariables false
set_option linter.unusedSimpArgs false

/-- A binding as it lies in the scope. -/
def tI (it : Int × Int) : List UInt8 × Tok := (textB it.1, tokOf it.2)

theorem tI_keys (f : List (Int × Int)) : (f.map tI).map (·.1) = (f.map (·.1)).map textB := by
  rw [List.map_map, List.map_map]
  rfl

theorem mem_textB {l : List Int} {k : Int} : textB k ∈ l.map textB ↔ k ∈ l := by
  rw [List.mem_map]
  exact ⟨fun ⟨a, h, e⟩ => by rw [← textB_inj e]; exact h, fun h => ⟨k, h, rfl⟩⟩

/-- The scope holds the frames fs, the reference the list L at level n; their memory is apart and new since B. -/
def BST (w : World) (B ob : Nat) (p r : Value) (fs : List (List (Int × Int))) (n : Nat) (L : List Bd) : Prop :=
  ∃ (F G : Nat → Prop) (fr : List (Fr (List UInt8) Tok)), ScopeST w p F fr ∧ fr.map Fr.items = fs.map (List.map tI) ∧ RSc w r G n L ∧ (∀ b, F b → ¬ G b) ∧ (∀ b, F b → B ≤ b ∧ b ≠ ob) ∧ ∀ b, G b → B ≤ b ∧ b ≠ ob

section
variable {w w' : World} {B ob : Nat} {p r : Value} {fs : List (List (Int × Int))} {f : List (Int × Int)} {n : Nat} {L : List Bd}

theorem BST.kept (h : BST w B ob p r fs n L) (hk : Kept (fun _ => False) w w') : BST w' B ob p r fs n L := by
  obtain ⟨F, G, fr, h1, h2, h3, h4⟩ := h
  exact ⟨F, G, fr, h1.frame hk (fun _ _ => id), h2, h3.frame hk (fun _ _ => id), h4⟩

/-- Another block is kept out. -/
theorem BST.out (h : BST w B ob p r fs n L) {o : Nat} (hk : Kept (fun _ => False) w w') (hn : w.heap.size ≤ o) : BST w' B o p r fs n L := by
  obtain ⟨F, G, fr, h1, h2, h3, h4, h5, h6⟩ := h
  exact ⟨F, G, fr, h1.frame hk (fun _ _ => id), h2, h3.frame hk (fun _ _ => id), h4, fun b hb => ⟨(h5 b hb).1, by have := h1.lt hb; omega⟩, fun b hb => ⟨(h6 b hb).1, by have := h3.lt hb; omega⟩⟩

theorem BST.refStep {F G G' : Nat → Prop} {fr : List (Fr (List UInt8) Tok)} {n' : Nat} {L' : List Bd} (h1 : ScopeST w p F fr) (h2 : fr.map Fr.items = fs.map (List.map tI)) (h3 : RSc w r G n L) (h4 : ∀ b, F b → ¬ G b) (h5 : ∀ b, F b → B ≤ b ∧ b ≠ ob) (h6 : ∀ b, G b → B ≤ b ∧ b ≠ ob) (hB : B ≤ w.heap.size) (ho : ob < w.heap.size)
    (r1 : RSc w' r G' n' L') (k : Kept G w w') (g : ∀ b, G' b → G b ∨ w.heap.size ≤ b) : BST w' B ob p r fs n' L' ∧ Kept (fun b => B ≤ b ∧ b ≠ ob) w w' :=
  ⟨⟨F, G', fr, h1.frame k h4, h2, r1, fun b hf hg => (g b hg).elim (h4 b hf) (fun h' => by have := h1.lt hf; omega), h5, fun b hg => (g b hg).elim (h6 b) (fun h' => ⟨Nat.le_trans hB h', by omega⟩)⟩, k.mono (fun b _ h => h6 b h)⟩

theorem BST.stkStep {F F' G : Nat → Prop} {fr fr' : List (Fr (List UInt8) Tok)} {fs' : List (List (Int × Int))} (h1 : ScopeST w p F fr) (h3 : RSc w r G n L) (h4 : ∀ b, F b → ¬ G b) (h5 : ∀ b, F b → B ≤ b ∧ b ≠ ob) (h6 : ∀ b, G b → B ≤ b ∧ b ≠ ob) (hB : B ≤ w.heap.size) (ho : ob < w.heap.size)
    (s1 : ScopeST w' p F' fr') (s2 : fr'.map Fr.items = fs'.map (List.map tI)) (k : Kept F w w') (f : ∀ b, F' b → F b ∨ w.heap.size ≤ b) : BST w' B ob p r fs' n L ∧ Kept (fun b => B ≤ b ∧ b ≠ ob) w w' :=
  ⟨⟨F', G, fr', s1, s2, h3.frame k (fun b hg hf => h4 b hf hg), fun b hf hg => (f b hf).elim (fun h' => h4 b h' hg) (fun h' => by have := h3.lt hg; omega), fun b hf => (f b hf).elim (h5 b) (fun h' => ⟨Nat.le_trans hB h', by omega⟩), h6⟩, k.mono (fun b _ h => h5 b h)⟩

theorem last_frameT {fr : List (Fr (List UInt8) Tok)} (h : fr.map Fr.items = (fs ++ [f]).map (List.map tI)) : ∃ fr' ff, fr = fr' ++ [ff] ∧ fr'.map Fr.items = fs.map (List.map tI) ∧ ff.items = f.map tI := by
  rw [List.map_append] at h
  obtain ⟨l1, l2, e1, e2, e3⟩ := List.map_eq_append_iff.1 h
  obtain ⟨ff, hl2, e5⟩ := List.map_eq_singleton_iff.1 e3
  exact ⟨l1, ff, by rw [e1, hl2], e2, e5⟩

theorem frames_len {fr : List (Fr (List UInt8) Tok)} (h : fr.map Fr.items = fs.map (List.map tI)) : fr.length = fs.length := by
  have := congrArg List.length h
  simpa using this

theorem bstRefOpen (h : BST w B ob p r fs n L) (hB : B ≤ w.heap.size) (ho : ob < w.heap.size) (hn : n < 9223372036854775807) :
    Calls Try.prog 15 #[r] w fun e w' => (∃ v, e = .returned v) ∧ BST w' B ob p r fs (n + 1) L ∧ Kept (fun b => B ≤ b ∧ b ≠ ob) w w' := by
  obtain ⟨F, G, fr, h1, h2, h3, h4, h5, h6⟩ := h
  refine (rscOpen h3 hn).mono ?_
  rintro e w' ⟨hv, r1, k⟩
  exact ⟨hv, BST.refStep h1 h2 h3 h4 h5 h6 hB ho r1 k (fun b h => .inl h)⟩

theorem bstOpen (h : BST w B ob p r fs n L) (hB : B ≤ w.heap.size) (ho : ob < w.heap.size) (hf : Fits (fs.length + 1) 32) :
    Calls Try.prog 25 #[p] w fun e w' => (∃ v, e = .returned v) ∧ BST w' B ob p r (fs ++ [[]]) n L ∧ Kept (fun b => B ≤ b ∧ b ≠ ob) w w' := by
  obtain ⟨F, G, fr, h1, h2, h3, h4, h5, h6⟩ := h
  refine (scopeOpenST h1 (by rw [frames_len h2]; exact hf)).mono ?_
  rintro e w' ⟨hv, F', s1, k, g⟩
  exact ⟨hv, BST.stkStep h1 h3 h4 h5 h6 hB ho s1 (by rw [List.map_append, h2, List.map_append]; rfl) k g⟩

theorem bstRefClose0 (h : BST w B ob p r fs 0 L) :
    Calls Try.prog 17 #[r] w fun e w' => e = .returned (.int .i64 4) ∧ w = w' := by
  obtain ⟨F, G, fr, h1, h2, h3, _⟩ := h
  exact rscClose0 h3

theorem bstClose1 (h : BST w B ob p r [f] n L) :
    Calls Try.prog 26 #[p] w fun e w' => e = .returned (.int .i64 4) ∧ w = w' := by
  obtain ⟨F, G, fr, h1, h2, _⟩ := h
  obtain ⟨ff, rfl, _⟩ := List.map_eq_singleton_iff.1 h2
  exact scopeClose1ST h1

theorem bstRefClose (h : BST w B ob p r fs (n + 1) L) (hB : B ≤ w.heap.size) (ho : ob < w.heap.size) (hL : L.length * 24 ≤ 140737488355328) (hn : n < 9223372036854775807) :
    Calls Try.prog 17 #[r] w fun e w' => e = .returned (.int .i64 0) ∧ BST w' B ob p r fs n (L.filter fun b => decide (b.1 < n + 1)) ∧ Kept (fun b => B ≤ b ∧ b ≠ ob) w w' := by
  obtain ⟨F, G, fr, h1, h2, h3, h4, h5, h6⟩ := h
  refine (rscClose h3 hL hn).mono ?_
  rintro e w' ⟨rfl, G', r1, k, g⟩
  exact ⟨rfl, BST.refStep h1 h2 h3 h4 h5 h6 hB ho r1 k g⟩

theorem bstClose (h : BST w B ob p r (fs ++ [f]) n L) (hB : B ≤ w.heap.size) (ho : ob < w.heap.size) (h0 : 0 < fs.length) :
    Calls Try.prog 26 #[p] w fun e w' => e = .returned (.int .i64 0) ∧ BST w' B ob p r fs n L ∧ Kept (fun b => B ≤ b ∧ b ≠ ob) w w' := by
  obtain ⟨F, G, fr, h1, h2, h3, h4, h5, h6⟩ := h
  obtain ⟨fr', ff, rfl, e1, e2⟩ := last_frameT h2
  refine (scopeCloseST h1 (by rw [frames_len e1]; exact h0)).mono ?_
  rintro e w' ⟨rfl, F', s1, k, g⟩
  exact ⟨rfl, BST.stkStep h1 h3 h4 h5 h6 hB ho s1 e1 k (fun b h => .inl (g b h))⟩

theorem bstRefBind (h : BST w B ob p r fs n L) (hB : B ≤ w.heap.size) (ho : ob < w.heap.size) (kk vv : Int) (hf : Fits (L.length + 1) 24) :
    Calls Try.prog 19 #[r, .int .i64 kk, .int .i64 vv] w fun e w' =>
      (L.any (fun b => decide (b.1 = n) && decide (b.2.1 = kk)) = true ∧ e = .returned (.int .i64 5) ∧ BST w' B ob p r fs n L ∧ Kept (fun b => B ≤ b ∧ b ≠ ob) w w') ∨
      (L.any (fun b => decide (b.1 = n) && decide (b.2.1 = kk)) = false ∧ e = .returned (.int .i64 0) ∧ BST w' B ob p r fs n (L ++ [(n, kk, vv)]) ∧ Kept (fun b => B ≤ b ∧ b ≠ ob) w w') := by
  have h' := h
  obtain ⟨F, G, fr, h1, h2, h3, h4, h5, h6⟩ := h
  refine (rscBind h3 kk vv hf).mono ?_
  rintro e w' (⟨ha, rfl, k⟩ | ⟨ha, rfl, G', r1, k, g⟩)
  · exact .inl ⟨ha, rfl, h'.kept k, k.mono (fun _ _ h => h.elim)⟩
  · exact .inr ⟨ha, rfl, BST.refStep h1 h2 h3 h4 h5 h6 hB ho r1 k g⟩

theorem bstBind (h : BST w B ob p r (fs ++ [f]) n L) (hB : B ≤ w.heap.size) (ho : ob < w.heap.size) (kk vv : Int) (hf : Fits (f.length + 1) 16) :
    Calls Try.prog 27 #[p, encS (textB kk), encT (tokOf vv)] w fun e w' =>
      (kk ∈ f.map (·.1) ∧ e = .returned (.int .i64 5) ∧ BST w' B ob p r (fs ++ [f]) n L ∧ Kept (fun b => B ≤ b ∧ b ≠ ob) w w') ∨
      (kk ∉ f.map (·.1) ∧ e = .returned (.int .i64 0) ∧ BST w' B ob p r (fs ++ [f ++ [(kk, vv)]]) n L ∧ Kept (fun b => B ≤ b ∧ b ≠ ob) w w') := by
  have h' := h
  obtain ⟨F, G, fr, h1, h2, h3, h4, h5, h6⟩ := h
  obtain ⟨fr', ff, rfl, e1, e2⟩ := last_frameT h2
  have hkeys : ff.keys = (f.map (·.1)).map textB := by
    unfold Fr.keys
    rw [e2, tI_keys]
  refine (scopeBindST h1 (textB kk) (tokOf vv) (by rw [e2, List.length_map]; exact hf)).mono ?_
  rintro e w' (⟨hm, rfl, k⟩ | ⟨hm, rfl, F', kv2, s1, k, g⟩)
  · rw [hkeys] at hm
    exact .inl ⟨mem_textB.1 hm, rfl, h'.kept k, k.mono (fun _ _ h => h.elim)⟩
  · rw [hkeys] at hm
    exact .inr ⟨fun h => hm (mem_textB.2 h), rfl, BST.stkStep h1 h3 h4 h5 h6 hB ho s1 (by
      rw [List.map_append, e1, List.map_append]
      simp only [List.map_cons, List.map_nil, e2, List.map_append]
      rfl) k g⟩

theorem BST.nodup (h : BST w B ob p r fs n L) : ∀ f ∈ fs, (f.map (·.1)).Nodup := by
  obtain ⟨F, G, fr, ⟨_, _, _, _, _, h3, _⟩, h2, _⟩ := h
  intro f hf
  have hm : f.map tI ∈ fr.map Fr.items := by rw [h2]; exact List.mem_map.2 ⟨f, hf, rfl⟩
  obtain ⟨f', hf', e⟩ := List.mem_map.1 hm
  have hnd := (h3 f' hf').2.2
  unfold Fr.keys at hnd
  rw [e, tI_keys, List.Nodup, List.pairwise_map] at hnd
  exact hnd.imp (fun hne he => hne (by rw [he]))

theorem bstRefFind (h : BST w B ob p r fs n L) (kk : Int) :
    Calls Try.prog 20 #[r, .int .i64 kk] w fun e w' => ∃ q : Int × Int × Int, e = .returned (.tuple #[.int .i64 q.1, .int .i64 q.2.1, .int .i64 q.2.2]) ∧ LastBd L kk q ∧ BST w' B ob p r fs n L ∧ Kept (fun _ => False) w w' := by
  have h' := h
  obtain ⟨F, G, fr, h1, h2, h3, _⟩ := h
  refine (rscFind h3 kk).mono ?_
  rintro e w' ⟨q, rfl, hq, k⟩
  exact ⟨q, rfl, hq, h'.kept k, k⟩

theorem BST.later (h : BST w B ob p r fs n L) (hb : Below w.heap.size w w') : BST w' B ob p r fs n L := by
  obtain ⟨F, G, fr, h1, h2, h3, h4⟩ := h
  exact ⟨F, G, fr, h1.frame (Kept.of_below hb) (fun b hb h => by have := h1.lt hb; omega), h2, h3.frame (Kept.of_below hb) (fun b hb h => by have := h3.lt hb; omega), h4⟩

/-- What Find of a text answers where the reference answers q. -/
def TokRes (q : Int × Int × Int) (tv : Value) : Prop := (q.2.2 = 0 ∧ tv = encT (tokOf q.1)) ∨ (q = (0, 0, 6) ∧ tv = zTok)

theorem bstFind (h : BST w B ob p r fs n L) (h0 : 0 < fs.length) (kk : Int) :
    Calls Try.prog 30 #[p, encS (textB kk)] w fun e w' => ∃ (q : Int × Int × Int) (tv : Value), e = .returned (.tuple #[tv, .int .i64 q.2.1, .int .i64 q.2.2]) ∧ TokRes q tv ∧ FindRes fs kk q ∧ BST w' B ob p r fs n L ∧ Below w.heap.size w w' := by
  have h' := h
  obtain ⟨F, G, fr, h1, h2, h3, _⟩ := h
  have hl := frames_len h2
  have hit : ∀ i (hi : i < fr.length) (hi' : i < fs.length), fr[i].items = fs[i].map tI := fun i hi hi' => by
    have := List.getElem_of_eq h2 (i := i) (by simpa using hi)
    simpa using this
  have hky : ∀ i (hi : i < fr.length) (hi' : i < fs.length), textB kk ∈ fr[i].keys ↔ kk ∈ fs[i].map (·.1) := fun i hi hi' => by
    unfold Fr.keys
    rw [hit i hi hi', tI_keys, mem_textB]
  refine (scopeFindST h1 (by rw [hl]; exact h0) (textB kk)).mono ?_
  rintro e w' ⟨(⟨rfl, hno⟩ | ⟨i, hi, x, rfl, ⟨j, hj⟩, hla⟩), hb⟩
  · refine ⟨(0, 0, 6), zTok, rfl, .inr ⟨rfl, rfl⟩, .inl ⟨rfl, fun f hf hm => ?_⟩, h'.later hb, hb⟩
    obtain ⟨i, hi, rfl⟩ := List.mem_iff_getElem.1 hf
    exact hno _ (List.getElem_mem (by rw [hl]; exact hi)) ((hky i (by rw [hl]; exact hi) hi).2 hm)
  · have hi' : i < fs.length := by rw [← hl]; exact hi
    rw [hit i hi hi', List.getElem?_map] at hj
    obtain ⟨it, hit2, he⟩ := Option.map_eq_some_iff.1 hj
    simp only [tI, Prod.mk.injEq] at he
    obtain ⟨he1, he2⟩ := he
    have hk := textB_inj he1
    subst hk
    have he2' : x = tokOf it.2 := by
      unfold tokOf
      obtain ⟨x0, x1, x2, x3⟩ := x
      simp only [tokOf] at he2 ⊢
      first
        | exact he2.symm
        | (simp only [Prod.mk.injEq]; obtain ⟨r1, r2, r3, r4⟩ := he2; exact ⟨r1.symm, r2.symm, r3.symm, r4.symm⟩)
    subst he2'
    exact ⟨(it.2, (i : Int), 0), encT (tokOf it.2), rfl, .inl ⟨rfl, rfl⟩, .inr ⟨i, hi', it.2, rfl, List.mem_of_getElem? hit2, fun i' hi2 hlt hm => hla i' (by rw [hl]; exact hi2) hlt ((hky i' (by rw [hl]; exact hi2) hi2).2 hm)⟩, h'.later hb, hb⟩

theorem bstRefLevel (h : BST w B ob p r fs n L) :
    Calls Try.prog 22 #[r] w fun e w' => e = .returned (.int .i64 (n : Int)) ∧ w = w' := by
  obtain ⟨F, G, fr, h1, h2, h3, _⟩ := h
  exact rscLevel h3

theorem bstLevel (h : BST w B ob p r fs n L) (h0 : 0 < fs.length) :
    Calls Try.prog 31 #[p] w fun e w' => e = .returned (.int .i64 ((fs.length - 1 : Nat) : Int)) ∧ w = w' := by
  obtain ⟨F, G, fr, h1, h2, _⟩ := h
  rw [← frames_len h2] at h0 ⊢
  exact scopeLevelST h1 h0

theorem bstRefHere (h : BST w B ob p r fs n L) (hL : L.length * 8 ≤ 140737488355328) :
    Calls Try.prog 23 #[r] w fun e w' => ∃ v, e = .returned v ∧ Fresh w w' 3 1 v ((L.filter fun b => decide (b.1 = n)).map (·.2.1)).length (cellsOf encI ((L.filter fun b => decide (b.1 = n)).map (·.2.1))) ∧ BST w' B ob p r fs n L := by
  have h' := h
  obtain ⟨F, G, fr, h1, h2, h3, _⟩ := h
  refine (rscHere h3 hL).mono ?_
  rintro e w' ⟨v, rfl, hf⟩
  exact ⟨v, rfl, hf, h'.kept hf.2.1⟩

theorem bstHere (h : BST w B ob p r (fs ++ [f]) n L) (hf : Fits f.length 16) :
    Calls Try.prog 34 #[p] w fun e w' => ∃ v, e = .returned v ∧ Fresh w w' 9 1 v f.length (cellsOf encS ((f.map (·.1)).map textB)) ∧ BST w' B ob p r (fs ++ [f]) n L := by
  have h' := h
  obtain ⟨F, G, fr, h1, h2, h3, _⟩ := h
  obtain ⟨fr', ff, rfl, e1, e2⟩ := last_frameT h2
  have hl : ff.items.length = f.length := by rw [e2, List.length_map]
  have hkeys : ff.keys = (f.map (·.1)).map textB := by
    unfold Fr.keys
    rw [e2, tI_keys]
  refine (scopeHereST h1 (by rw [hl]; exact hf)).mono ?_
  rintro e w' ⟨v, rfl, hfr⟩
  rw [hl, hkeys] at hfr
  exact ⟨v, rfl, hfr, h'.kept hfr.2.1⟩

end

end Go.Proofs.Ytllcklddfcclfaa
