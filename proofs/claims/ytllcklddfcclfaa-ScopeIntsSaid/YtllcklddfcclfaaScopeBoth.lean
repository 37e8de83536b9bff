/- The scope and the reference side by side (numbers by numbers): contracts by contents. -/
import Derived.Test.YtllcklddfcclfaaScopeHII
import Derived.Test.YtllcklddfcclfaaScopeCII
import Derived.Test.YtllcklddfcclfaaScopeTie
namespace Go.Proofs.Ytllcklddfcclfaa
open Go.RowKit
set_option linter.unusedVariables false
set_option linter.unusedSimpArgs false

/-- The scope holds the frames fs, the reference the list L at level n; their memory is apart and new since B. -/
def BSc (w : World) (B ob : Nat) (p r : Value) (fs : List (List (Int × Int))) (n : Nat) (L : List Bd) : Prop :=
  ∃ (F G : Nat → Prop) (fr : List (Fr Int Int)), ScopeII w p F fr ∧ fr.map Fr.items = fs ∧ RSc w r G n L ∧ (∀ b, F b → ¬ G b) ∧ (∀ b, F b → B ≤ b ∧ b ≠ ob) ∧ ∀ b, G b → B ≤ b ∧ b ≠ ob

section
variable {w w' : World} {B ob : Nat} {p r : Value} {fs : List (List (Int × Int))} {f : List (Int × Int)} {n : Nat} {L : List Bd}

theorem BSc.kept (h : BSc w B ob p r fs n L) (hk : Kept (fun _ => False) w w') : BSc w' B ob p r fs n L := by
  obtain ⟨F, G, fr, h1, h2, h3, h4⟩ := h
  exact ⟨F, G, fr, h1.frame hk (fun _ _ => id), h2, h3.frame hk (fun _ _ => id), h4⟩

/-- Another block is kept out. -/
theorem BSc.out (h : BSc w B ob p r fs n L) {o : Nat} (hk : Kept (fun _ => False) w w') (hn : w.heap.size ≤ o) : BSc w' B o p r fs n L := by
  obtain ⟨F, G, fr, h1, h2, h3, h4, h5, h6⟩ := h
  exact ⟨F, G, fr, h1.frame hk (fun _ _ => id), h2, h3.frame hk (fun _ _ => id), h4, fun b hb => ⟨(h5 b hb).1, by have := h1.lt hb; omega⟩, fun b hb => ⟨(h6 b hb).1, by have := h3.lt hb; omega⟩⟩

theorem BSc.refStep {F G G' : Nat → Prop} {fr : List (Fr Int Int)} {n' : Nat} {L' : List Bd} (h1 : ScopeII w p F fr) (h2 : fr.map Fr.items = fs) (h3 : RSc w r G n L) (h4 : ∀ b, F b → ¬ G b) (h5 : ∀ b, F b → B ≤ b ∧ b ≠ ob) (h6 : ∀ b, G b → B ≤ b ∧ b ≠ ob) (hB : B ≤ w.heap.size) (ho : ob < w.heap.size)
    (r1 : RSc w' r G' n' L') (k : Kept G w w') (g : ∀ b, G' b → G b ∨ w.heap.size ≤ b) : BSc w' B ob p r fs n' L' ∧ Kept (fun b => B ≤ b ∧ b ≠ ob) w w' :=
  ⟨⟨F, G', fr, h1.frame k h4, h2, r1, fun b hf hg => (g b hg).elim (h4 b hf) (fun h' => by have := h1.lt hf; omega), h5, fun b hg => (g b hg).elim (h6 b) (fun h' => ⟨Nat.le_trans hB h', by omega⟩)⟩, k.mono (fun b _ h => h6 b h)⟩

theorem BSc.stkStep {F F' G : Nat → Prop} {fr fr' : List (Fr Int Int)} {fs' : List (List (Int × Int))} (h1 : ScopeII w p F fr) (h3 : RSc w r G n L) (h4 : ∀ b, F b → ¬ G b) (h5 : ∀ b, F b → B ≤ b ∧ b ≠ ob) (h6 : ∀ b, G b → B ≤ b ∧ b ≠ ob) (hB : B ≤ w.heap.size) (ho : ob < w.heap.size)
    (s1 : ScopeII w' p F' fr') (s2 : fr'.map Fr.items = fs') (k : Kept F w w') (f : ∀ b, F' b → F b ∨ w.heap.size ≤ b) : BSc w' B ob p r fs' n L ∧ Kept (fun b => B ≤ b ∧ b ≠ ob) w w' :=
  ⟨⟨F', G, fr', s1, s2, h3.frame k (fun b hg hf => h4 b hf hg), fun b hf hg => (f b hf).elim (fun h' => h4 b h' hg) (fun h' => by have := h3.lt hg; omega), fun b hf => (f b hf).elim (h5 b) (fun h' => ⟨Nat.le_trans hB h', by omega⟩), h6⟩, k.mono (fun b _ h => h5 b h)⟩

theorem last_frame {fr : List (Fr Int Int)} (h : fr.map Fr.items = fs ++ [f]) : ∃ fr' ff, fr = fr' ++ [ff] ∧ fr'.map Fr.items = fs ∧ ff.items = f := by
  obtain ⟨l1, l2, e1, e2, e3⟩ := List.map_eq_append_iff.1 h
  obtain ⟨ff, hl2, e5⟩ := List.map_eq_singleton_iff.1 e3
  exact ⟨l1, ff, by rw [e1, hl2], e2, e5⟩

theorem bscRefOpen (h : BSc w B ob p r fs n L) (hB : B ≤ w.heap.size) (ho : ob < w.heap.size) (hn : n < 9223372036854775807) :
    Calls Try.prog 15 #[r] w fun e w' => (∃ v, e = .returned v) ∧ BSc w' B ob p r fs (n + 1) L ∧ Kept (fun b => B ≤ b ∧ b ≠ ob) w w' := by
  obtain ⟨F, G, fr, h1, h2, h3, h4, h5, h6⟩ := h
  refine (rscOpen h3 hn).mono ?_
  rintro e w' ⟨hv, r1, k⟩
  exact ⟨hv, BSc.refStep h1 h2 h3 h4 h5 h6 hB ho r1 k (fun b h => .inl h)⟩

theorem bscOpen (h : BSc w B ob p r fs n L) (hB : B ≤ w.heap.size) (ho : ob < w.heap.size) (hf : Fits (fs.length + 1) 32) :
    Calls Try.prog 16 #[p] w fun e w' => (∃ v, e = .returned v) ∧ BSc w' B ob p r (fs ++ [[]]) n L ∧ Kept (fun b => B ≤ b ∧ b ≠ ob) w w' := by
  obtain ⟨F, G, fr, h1, h2, h3, h4, h5, h6⟩ := h
  refine (scopeOpenII h1 (by rw [← h2, List.length_map] at hf; exact hf)).mono ?_
  rintro e w' ⟨hv, F', s1, k, g⟩
  exact ⟨hv, BSc.stkStep h1 h3 h4 h5 h6 hB ho s1 (by simp [h2]) k g⟩

theorem bscRefClose0 (h : BSc w B ob p r fs 0 L) :
    Calls Try.prog 17 #[r] w fun e w' => e = .returned (.int .i64 4) ∧ w = w' := by
  obtain ⟨F, G, fr, h1, h2, h3, _⟩ := h
  exact rscClose0 h3

theorem bscClose1 (h : BSc w B ob p r [f] n L) :
    Calls Try.prog 18 #[p] w fun e w' => e = .returned (.int .i64 4) ∧ w = w' := by
  obtain ⟨F, G, fr, h1, h2, _⟩ := h
  obtain ⟨ff, rfl, _⟩ := List.map_eq_singleton_iff.1 h2
  exact scopeClose1II h1

theorem bscRefClose (h : BSc w B ob p r fs (n + 1) L) (hB : B ≤ w.heap.size) (ho : ob < w.heap.size) (hL : L.length * 24 ≤ 140737488355328) (hn : n < 9223372036854775807) :
    Calls Try.prog 17 #[r] w fun e w' => e = .returned (.int .i64 0) ∧ BSc w' B ob p r fs n (L.filter fun b => decide (b.1 < n + 1)) ∧ Kept (fun b => B ≤ b ∧ b ≠ ob) w w' := by
  obtain ⟨F, G, fr, h1, h2, h3, h4, h5, h6⟩ := h
  refine (rscClose h3 hL hn).mono ?_
  rintro e w' ⟨rfl, G', r1, k, g⟩
  exact ⟨rfl, BSc.refStep h1 h2 h3 h4 h5 h6 hB ho r1 k g⟩

theorem bscClose (h : BSc w B ob p r (fs ++ [f]) n L) (hB : B ≤ w.heap.size) (ho : ob < w.heap.size) (h0 : 0 < fs.length) :
    Calls Try.prog 18 #[p] w fun e w' => e = .returned (.int .i64 0) ∧ BSc w' B ob p r fs n L ∧ Kept (fun b => B ≤ b ∧ b ≠ ob) w w' := by
  obtain ⟨F, G, fr, h1, h2, h3, h4, h5, h6⟩ := h
  obtain ⟨fr', ff, rfl, e1, e2⟩ := last_frame h2
  refine (scopeCloseII h1 (by rw [← e1] at h0; simpa using h0)).mono ?_
  rintro e w' ⟨rfl, F', s1, k, g⟩
  exact ⟨rfl, BSc.stkStep h1 h3 h4 h5 h6 hB ho s1 e1 k (fun b h => .inl (g b h))⟩

theorem bscRefBind (h : BSc w B ob p r fs n L) (hB : B ≤ w.heap.size) (ho : ob < w.heap.size) (kk vv : Int) (hf : Fits (L.length + 1) 24) :
    Calls Try.prog 19 #[r, .int .i64 kk, .int .i64 vv] w fun e w' =>
      (L.any (fun b => decide (b.1 = n) && decide (b.2.1 = kk)) = true ∧ e = .returned (.int .i64 5) ∧ BSc w' B ob p r fs n L ∧ Kept (fun b => B ≤ b ∧ b ≠ ob) w w') ∨
      (L.any (fun b => decide (b.1 = n) && decide (b.2.1 = kk)) = false ∧ e = .returned (.int .i64 0) ∧ BSc w' B ob p r fs n (L ++ [(n, kk, vv)]) ∧ Kept (fun b => B ≤ b ∧ b ≠ ob) w w') := by
  have h' := h
  obtain ⟨F, G, fr, h1, h2, h3, h4, h5, h6⟩ := h
  refine (rscBind h3 kk vv hf).mono ?_
  rintro e w' (⟨ha, rfl, k⟩ | ⟨ha, rfl, G', r1, k, g⟩)
  · exact .inl ⟨ha, rfl, h'.kept k, k.mono (fun _ _ h => h.elim)⟩
  · exact .inr ⟨ha, rfl, BSc.refStep h1 h2 h3 h4 h5 h6 hB ho r1 k g⟩

theorem bscBind (h : BSc w B ob p r (fs ++ [f]) n L) (hB : B ≤ w.heap.size) (ho : ob < w.heap.size) (kk vv : Int) (hf : Fits (f.length + 1) 8) :
    Calls Try.prog 10 #[p, .int .i64 kk, .int .i64 vv] w fun e w' =>
      (kk ∈ f.map (·.1) ∧ e = .returned (.int .i64 5) ∧ BSc w' B ob p r (fs ++ [f]) n L ∧ Kept (fun b => B ≤ b ∧ b ≠ ob) w w') ∨
      (kk ∉ f.map (·.1) ∧ e = .returned (.int .i64 0) ∧ BSc w' B ob p r (fs ++ [f ++ [(kk, vv)]]) n L ∧ Kept (fun b => B ≤ b ∧ b ≠ ob) w w') := by
  have h' := h
  obtain ⟨F, G, fr, h1, h2, h3, h4, h5, h6⟩ := h
  obtain ⟨fr', ff, rfl, e1, e2⟩ := last_frame h2
  refine (scopeBindII h1 kk vv (by rw [e2]; exact hf)).mono ?_
  rintro e w' (⟨hm, rfl, k⟩ | ⟨hm, rfl, F', kv2, s1, k, g⟩)
  · exact .inl ⟨by rw [← e2]; exact hm, rfl, h'.kept k, k.mono (fun _ _ h => h.elim)⟩
  · exact .inr ⟨by rw [← e2]; exact hm, rfl, BSc.stkStep h1 h3 h4 h5 h6 hB ho s1 (by simp [e1, e2]) k g⟩

theorem BSc.nodup (h : BSc w B ob p r fs n L) : ∀ f ∈ fs, (f.map (·.1)).Nodup := by
  obtain ⟨F, G, fr, h1, rfl, _⟩ := h
  exact h1.nodup

theorem bscRefFind (h : BSc w B ob p r fs n L) (kk : Int) :
    Calls Try.prog 20 #[r, .int .i64 kk] w fun e w' => ∃ q : Int × Int × Int, e = .returned (.tuple #[.int .i64 q.1, .int .i64 q.2.1, .int .i64 q.2.2]) ∧ LastBd L kk q ∧ BSc w' B ob p r fs n L ∧ Kept (fun _ => False) w w' := by
  have h' := h
  obtain ⟨F, G, fr, h1, h2, h3, _⟩ := h
  refine (rscFind h3 kk).mono ?_
  rintro e w' ⟨q, rfl, hq, k⟩
  exact ⟨q, rfl, hq, h'.kept k, k⟩

theorem BSc.later (h : BSc w B ob p r fs n L) (hb : Below w.heap.size w w') : BSc w' B ob p r fs n L := by
  obtain ⟨F, G, fr, h1, h2, h3, h4⟩ := h
  exact ⟨F, G, fr, h1.frame (Kept.of_below hb) (fun b hb h => by have := h1.lt hb; omega), h2, h3.frame (Kept.of_below hb) (fun b hb h => by have := h3.lt hb; omega), h4⟩

theorem bscFind (h : BSc w B ob p r fs n L) (h0 : 0 < fs.length) (kk : Int) :
    Calls Try.prog 14 #[p, .int .i64 kk] w fun e w' => ∃ q : Int × Int × Int, e = .returned (.tuple #[.int .i64 q.1, .int .i64 q.2.1, .int .i64 q.2.2]) ∧ FindRes fs kk q ∧ BSc w' B ob p r fs n L ∧ Below w.heap.size w w' := by
  have h' := h
  obtain ⟨F, G, fr, h1, h2, h3, _⟩ := h
  refine (scopeFindRes h1 (by rw [← h2] at h0; simpa using h0) kk).mono ?_
  rintro e w' ⟨q, rfl, hq, hb⟩
  exact ⟨q, rfl, by rw [← h2]; exact hq, h'.later hb, hb⟩

theorem bscRefLevel (h : BSc w B ob p r fs n L) :
    Calls Try.prog 22 #[r] w fun e w' => e = .returned (.int .i64 (n : Int)) ∧ w = w' := by
  obtain ⟨F, G, fr, h1, h2, h3, _⟩ := h
  exact rscLevel h3

theorem bscLevel (h : BSc w B ob p r fs n L) (h0 : 0 < fs.length) :
    Calls Try.prog 21 #[p] w fun e w' => e = .returned (.int .i64 ((fs.length - 1 : Nat) : Int)) ∧ w = w' := by
  obtain ⟨F, G, fr, h1, rfl, _⟩ := h
  have := scopeLevelII h1 (by simpa using h0)
  rw [List.length_map]
  exact this

theorem bscRefHere (h : BSc w B ob p r fs n L) (hL : L.length * 8 ≤ 140737488355328) :
    Calls Try.prog 23 #[r] w fun e w' => ∃ v, e = .returned v ∧ Fresh w w' 3 1 v ((L.filter fun b => decide (b.1 = n)).map (·.2.1)).length (cellsOf encI ((L.filter fun b => decide (b.1 = n)).map (·.2.1))) ∧ BSc w' B ob p r fs n L := by
  have h' := h
  obtain ⟨F, G, fr, h1, h2, h3, _⟩ := h
  refine (rscHere h3 hL).mono ?_
  rintro e w' ⟨v, rfl, hf⟩
  exact ⟨v, rfl, hf, h'.kept hf.2.1⟩

theorem bscHere (h : BSc w B ob p r (fs ++ [f]) n L) (hf : Fits f.length 8) :
    Calls Try.prog 11 #[p] w fun e w' => ∃ v, e = .returned v ∧ Fresh w w' 3 1 v (f.map (·.1)).length (cellsOf encI (f.map (·.1))) ∧ BSc w' B ob p r (fs ++ [f]) n L := by
  have h' := h
  obtain ⟨F, G, fr, h1, h2, h3, _⟩ := h
  obtain ⟨fr', ff, rfl, e1, e2⟩ := last_frame h2
  refine (scopeHereII h1 (by rw [e2]; exact hf)).mono ?_
  rintro e w' ⟨v, rfl, hfr⟩
  exact ⟨v, rfl, by rw [List.length_map, ← e2]; exact hfr, h'.kept hfr.2.1⟩

end

end Go.Proofs.Ytllcklddfcclfaa
