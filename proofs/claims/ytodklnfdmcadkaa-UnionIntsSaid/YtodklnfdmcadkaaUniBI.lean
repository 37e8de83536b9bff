/- The sets and the reference side by side: contracts by contents. -/
import Derived.Test.YtodklnfdmcadkaaUniCI
import Derived.Test.YtodklnfdmcadkaaRefB06
namespace Go.Proofs.Ytodklnfdmcadkaa
open Go.RowKit
set_option linter.unusedVariables false
set_option linter.unusedSimpArgs false

/-- The sets hold ρ, vals, the reference ρ', vr; their memory is apart, new since B, and ob is kept out. -/
def UBI (w : World) (B ob : Nat) (p r : Value) (ρ : Nat → Nat) (vals : List (Int)) (ρ' : Nat → Nat) (vr : List Int) : Prop :=
  ∃ (F G : Nat → Prop), UniI w p F ρ vals ∧ RUn w r G ρ' vr ∧ (∀ b, F b → ¬ G b) ∧ (∀ b, F b → B ≤ b ∧ b ≠ ob) ∧ ∀ b, G b → B ≤ b ∧ b ≠ ob

section
variable {w w' : World} {B ob : Nat} {p r : Value} {ρ ρ' : Nat → Nat} {vals : List (Int)} {vr : List Int}

theorem UBI.kept (h : UBI w B ob p r ρ vals ρ' vr) (hk : Kept (fun _ => False) w w') : UBI w' B ob p r ρ vals ρ' vr := by
  obtain ⟨F, G, h1, h3, h4⟩ := h
  exact ⟨F, G, h1.frame hk (fun _ _ => id), h3.frame hk (fun _ _ => id), h4⟩

theorem UBI.out (h : UBI w B ob p r ρ vals ρ' vr) {o : Nat} (hk : Kept (fun _ => False) w w') (hn : w.heap.size ≤ o) : UBI w' B o p r ρ vals ρ' vr := by
  obtain ⟨F, G, h1, h3, h4, h5, h6⟩ := h
  exact ⟨F, G, h1.frame hk (fun _ _ => id), h3.frame hk (fun _ _ => id), h4, fun b hb => ⟨(h5 b hb).1, by have := h1.lt hb; omega⟩, fun b hb => ⟨(h6 b hb).1, by have := h3.lt hb; omega⟩⟩

theorem UBI.le (h : UBI w B ob p r ρ vals ρ' vr) {j : Nat} (hj : j < vals.length) : ρ j ≤ j := by
  obtain ⟨F, G, h1, _⟩ := h
  exact h1.le hj

theorem UBI.refStep {F G G' : Nat → Prop} {ρ1 : Nat → Nat} {vr1 : List Int} (h1 : UniI w p F ρ vals) (h3 : RUn w r G ρ' vr) (h4 : ∀ b, F b → ¬ G b) (h5 : ∀ b, F b → B ≤ b ∧ b ≠ ob) (h6 : ∀ b, G b → B ≤ b ∧ b ≠ ob) (hB : B ≤ w.heap.size) (ho : ob < w.heap.size)
    (r1 : RUn w' r G' ρ1 vr1) (k : Kept G w w') (g : ∀ b, G' b → G b ∨ w.heap.size ≤ b) : UBI w' B ob p r ρ vals ρ1 vr1 ∧ Kept (fun b => B ≤ b ∧ b ≠ ob) w w' :=
  ⟨⟨F, G', h1.frame k h4, r1, fun b hf hg => (g b hg).elim (h4 b hf) (fun h' => by have := h1.lt hf; omega), h5, fun b hg => (g b hg).elim (h6 b) (fun h' => ⟨Nat.le_trans hB h', by omega⟩)⟩, k.mono (fun b _ h => h6 b h)⟩

theorem UBI.uniStep {F F' G : Nat → Prop} {ρ1 : Nat → Nat} {vals1 : List (Int)} (h1 : UniI w p F ρ vals) (h3 : RUn w r G ρ' vr) (h4 : ∀ b, F b → ¬ G b) (h5 : ∀ b, F b → B ≤ b ∧ b ≠ ob) (h6 : ∀ b, G b → B ≤ b ∧ b ≠ ob) (hB : B ≤ w.heap.size) (ho : ob < w.heap.size)
    (s1 : UniI w' p F' ρ1 vals1) (k : Kept F w w') (f : ∀ b, F' b → F b ∨ w.heap.size ≤ b) : UBI w' B ob p r ρ1 vals1 ρ' vr ∧ Kept (fun b => B ≤ b ∧ b ≠ ob) w w' :=
  ⟨⟨F', G, s1, h3.frame k (fun b hg hf => h4 b hf hg), fun b hf hg => (f b hf).elim (fun h' => h4 b h' hg) (fun h' => by have := h3.lt hg; omega), fun b hf => (f b hf).elim (h5 b) (fun h' => ⟨Nat.le_trans hB h', by omega⟩), h6⟩, k.mono (fun b _ h => h5 b h)⟩

theorem ubRefAddI (h : UBI w B ob p r ρ vals ρ' vr) (hB : B ≤ w.heap.size) (ho : ob < w.heap.size) (x : Int) (hf : Fits (vr.length + 1) 8) :
    Calls Try.prog 10 #[r, .int .i64 x] w fun e w' => e = .returned (.int .i64 (vr.length : Int)) ∧ UBI w' B ob p r ρ vals (fun j => if j = vr.length then vr.length else ρ' j) (vr ++ [x]) ∧ Kept (fun b => B ≤ b ∧ b ≠ ob) w w' := by
  obtain ⟨F, G, h1, h3, h4, h5, h6⟩ := h
  refine (runAdd h3 x hf).mono ?_
  rintro e w' ⟨rfl, G', r1, k, g⟩
  exact ⟨rfl, UBI.refStep h1 h3 h4 h5 h6 hB ho r1 k g⟩

theorem ubAddI (h : UBI w B ob p r ρ vals ρ' vr) (hB : B ≤ w.heap.size) (ho : ob < w.heap.size) (x : Int) (hf : Fits (vals.length + 1) 24) :
    Calls Try.prog 11 #[p, encI x] w fun e w' => e = .returned (.tuple #[.int .i64 (vals.length : Int), .int .i64 0]) ∧ UBI w' B ob p r (fun j => if j = vals.length then vals.length else ρ j) (vals ++ [x]) ρ' vr ∧ Kept (fun b => B ≤ b ∧ b ≠ ob) w w' := by
  obtain ⟨F, G, h1, h3, h4, h5, h6⟩ := h
  refine (uniAddI h1 x hf).mono ?_
  rintro e w' ⟨rfl, F', s1, k, f⟩
  exact ⟨rfl, UBI.uniStep h1 h3 h4 h5 h6 hB ho s1 k f⟩

theorem ubRefFindI (h : UBI w B ob p r ρ vals ρ' vr) (i : Int) :
    Calls Try.prog 22 #[r, .int .i64 i] w fun e w' => ((i < 0 ∨ (vr.length : Int) ≤ i) ∧ e = .returned (.tuple #[.int .i64 0, .int .i64 2]) ∧ w = w') ∨
      ∃ j : Nat, i = j ∧ j < vr.length ∧ e = .returned (.tuple #[.int .i64 (ρ' j : Int), .int .i64 0]) ∧ w = w' := by
  obtain ⟨F, G, h1, h3, h4, h5, h6⟩ := h
  exact runFind h3 i

theorem ubFindI (h : UBI w B ob p r ρ vals ρ' vr) (hB : B ≤ w.heap.size) (ho : ob < w.heap.size) (i : Int) :
    Calls Try.prog 18 #[p, .int .i64 i] w fun e w' => ((i < 0 ∨ (vals.length : Int) ≤ i) ∧ e = .returned (.tuple #[.int .i64 0, .int .i64 2]) ∧ w = w') ∨
      ∃ j : Nat, i = j ∧ j < vals.length ∧ e = .returned (.tuple #[.int .i64 (ρ j : Int), .int .i64 0]) ∧ UBI w' B ob p r ρ vals ρ' vr ∧ Kept (fun b => B ≤ b ∧ b ≠ ob) w w' := by
  obtain ⟨F, G, h1, h3, h4, h5, h6⟩ := h
  refine (uniFindI h1 i).mono ?_
  rintro e w' (h | ⟨j, rfl, hj, rfl, s1, k⟩)
  · exact .inl h
  · exact .inr ⟨j, rfl, hj, rfl, UBI.uniStep h1 h3 h4 h5 h6 hB ho s1 k (fun b h => .inl h)⟩

theorem ubRefJoinI (h : UBI w B ob p r ρ vals ρ' vr) (hB : B ≤ w.heap.size) (ho : ob < w.heap.size) (i j : Int) :
    Calls Try.prog 12 #[r, .int .i64 i, .int .i64 j] w fun e w' => (((i < 0 ∨ (vr.length : Int) ≤ i) ∨ (j < 0 ∨ (vr.length : Int) ≤ j)) ∧ e = .returned (.int .i64 2) ∧ w = w') ∨
      ∃ i' j' : Nat, i = i' ∧ j = j' ∧ i' < vr.length ∧ j' < vr.length ∧ e = .returned (.int .i64 0) ∧ UBI w' B ob p r ρ vals (joinN ρ' i' j') vr ∧ Kept (fun b => B ≤ b ∧ b ≠ ob) w w' := by
  obtain ⟨F, G, h1, h3, h4, h5, h6⟩ := h
  refine (runJoin h3 i j).mono ?_
  rintro e w' (h | ⟨i', j', rfl, rfl, hi, hj, rfl, s1, k⟩)
  · exact .inl h
  · exact .inr ⟨i', j', rfl, rfl, hi, hj, rfl, UBI.refStep h1 h3 h4 h5 h6 hB ho s1 k (fun b h => .inl h)⟩

theorem ubJoinI (h : UBI w B ob p r ρ vals ρ' vr) (hB : B ≤ w.heap.size) (ho : ob < w.heap.size) (i j : Int) :
    Calls Try.prog 13 #[p, .int .i64 i, .int .i64 j] w fun e w' => (((i < 0 ∨ (vals.length : Int) ≤ i) ∨ (j < 0 ∨ (vals.length : Int) ≤ j)) ∧ e = .returned (.int .i64 2) ∧ UBI w' B ob p r ρ vals ρ' vr ∧ Kept (fun b => B ≤ b ∧ b ≠ ob) w w') ∨
      ∃ i' j' : Nat, i = i' ∧ j = j' ∧ i' < vals.length ∧ j' < vals.length ∧ e = .returned (.int .i64 0) ∧ UBI w' B ob p r (joinN ρ i' j') vals ρ' vr ∧ Kept (fun b => B ≤ b ∧ b ≠ ob) w w' := by
  obtain ⟨F, G, h1, h3, h4, h5, h6⟩ := h
  refine (uniJoinI h1 i j).mono ?_
  rintro e w' (⟨hb, rfl, s1, k⟩ | ⟨i', j', rfl, rfl, hi, hj, rfl, s1, k⟩)
  · exact .inl ⟨hb, rfl, UBI.uniStep h1 h3 h4 h5 h6 hB ho s1 k (fun b h => .inl h)⟩
  · exact .inr ⟨i', j', rfl, rfl, hi, hj, rfl, UBI.uniStep h1 h3 h4 h5 h6 hB ho s1 k (fun b h => .inl h)⟩

theorem ubRefGetI (h : UBI w B ob p r ρ vals ρ' vr) (i : Int) :
    Calls Try.prog 23 #[r, .int .i64 i] w fun e w' => ((i < 0 ∨ (vr.length : Int) ≤ i) ∧ e = .returned (.tuple #[.int .i64 0, .int .i64 2]) ∧ w = w') ∨
      ∃ (j : Nat) (x : Int), i = j ∧ j < vr.length ∧ vr[ρ' j]? = some x ∧ e = .returned (.tuple #[.int .i64 x, .int .i64 0]) ∧ Kept (fun _ => False) w w' := by
  obtain ⟨F, G, h1, h3, h4, h5, h6⟩ := h
  exact runGet h3 i

theorem ubGetI (h : UBI w B ob p r ρ vals ρ' vr) (hB : B ≤ w.heap.size) (ho : ob < w.heap.size) (i : Int) :
    Calls Try.prog 19 #[p, .int .i64 i] w fun e w' => ((i < 0 ∨ (vals.length : Int) ≤ i) ∧ e = .returned (.tuple #[.int .i64 0, .int .i64 2]) ∧ w = w') ∨
      ∃ (j : Nat) (x : Int), i = j ∧ j < vals.length ∧ vals[ρ j]? = some x ∧ e = .returned (.tuple #[encI x, .int .i64 0]) ∧ UBI w' B ob p r ρ vals ρ' vr ∧ Kept (fun b => B ≤ b ∧ b ≠ ob) w w' := by
  obtain ⟨F, G, h1, h3, h4, h5, h6⟩ := h
  refine (uniGetI h1 i).mono ?_
  rintro e w' (h | ⟨j, x, rfl, hj, hx, rfl, s1, k⟩)
  · exact .inl h
  · exact .inr ⟨j, x, rfl, hj, hx, rfl, UBI.uniStep h1 h3 h4 h5 h6 hB ho s1 k (fun b h => .inl h)⟩

theorem ubRefPutI (h : UBI w B ob p r ρ vals ρ' vr) (hB : B ≤ w.heap.size) (ho : ob < w.heap.size) (i x : Int) :
    Calls Try.prog 24 #[r, .int .i64 i, .int .i64 x] w fun e w' => ((i < 0 ∨ (vr.length : Int) ≤ i) ∧ e = .returned (.int .i64 2) ∧ w = w') ∨
      ∃ (j : Nat), i = j ∧ j < vr.length ∧ e = .returned (.int .i64 0) ∧ UBI w' B ob p r ρ vals ρ' (vr.set (ρ' j) x) ∧ Kept (fun b => B ≤ b ∧ b ≠ ob) w w' := by
  obtain ⟨F, G, h1, h3, h4, h5, h6⟩ := h
  refine (runPut h3 i x).mono ?_
  rintro e w' (h | ⟨j, rfl, hj, rfl, s1, k⟩)
  · exact .inl h
  · exact .inr ⟨j, rfl, hj, rfl, UBI.refStep h1 h3 h4 h5 h6 hB ho s1 k (fun b h => .inl h)⟩

theorem ubPutI (h : UBI w B ob p r ρ vals ρ' vr) (hB : B ≤ w.heap.size) (ho : ob < w.heap.size) (i : Int) (x : Int) :
    Calls Try.prog 25 #[p, .int .i64 i, encI x] w fun e w' => ((i < 0 ∨ (vals.length : Int) ≤ i) ∧ e = .returned (.int .i64 2) ∧ w = w') ∨
      ∃ (j : Nat), i = j ∧ j < vals.length ∧ e = .returned (.int .i64 0) ∧ UBI w' B ob p r ρ (vals.set (ρ j) x) ρ' vr ∧ Kept (fun b => B ≤ b ∧ b ≠ ob) w w' := by
  obtain ⟨F, G, h1, h3, h4, h5, h6⟩ := h
  refine (uniPutI h1 i x).mono ?_
  rintro e w' (h | ⟨j, rfl, hj, rfl, s1, k⟩)
  · exact .inl h
  · exact .inr ⟨j, rfl, hj, rfl, UBI.uniStep h1 h3 h4 h5 h6 hB ho s1 k (fun b h => .inl h)⟩

theorem ubRefClassI (h : UBI w B ob p r ρ vals ρ' vr) (i : Int) (hn : vr.length * 8 ≤ 140737488355328) :
    Calls Try.prog 15 #[r, .int .i64 i] w fun e w' => ((i < 0 ∨ (vr.length : Int) ≤ i) ∧ e = .returned (.tuple #[.slice none 0 0, .int .i64 2]) ∧ w = w') ∨
      ∃ (j : Nat) (v : Value), i = j ∧ j < vr.length ∧ e = .returned (.tuple #[v, .int .i64 0]) ∧ Fresh w w' 3 1 v (clsOf vr.length ρ' (ρ' j)).length (cellsOf encI (clsOf vr.length ρ' (ρ' j))) := by
  obtain ⟨F, G, h1, h3, h4, h5, h6⟩ := h
  exact runClass h3 i hn

theorem ubClassI {w0 : World} (h : UBI w0 B ob p r ρ vals ρ' vr) (hk0 : Kept (fun _ => False) w0 w) (hB : B ≤ w.heap.size) (ho : ob < w.heap.size) (i : Int) (hn : vals.length * 8 ≤ 140737488355328) :
    Calls Try.prog 14 #[p, .int .i64 i] w fun e w' => ((i < 0 ∨ (vals.length : Int) ≤ i) ∧ e = .returned (.tuple #[.slice none 0 0, .int .i64 2]) ∧ w = w') ∨
      ∃ (j : Nat) (v : Value), i = j ∧ j < vals.length ∧ e = .returned (.tuple #[v, .int .i64 0]) ∧ UBI w' B ob p r ρ vals ρ' vr ∧ Kept (fun b => (B ≤ b ∧ b ≠ ob) ∧ b < w0.heap.size) w w' ∧
      Own w' 3 1 v (clsOf vals.length ρ (ρ j)).length (cellsOf encI (clsOf vals.length ρ (ρ j))) ∧ ∀ b, v.ownBlock = some b → w.heap.size ≤ b := by
  obtain ⟨F, G, h0, h3, h4, h5, h6⟩ := h
  have h1 := h0.frame hk0 (fun _ _ => id)
  refine (uniClassI h1 i hn).mono ?_
  rintro e w' (h | ⟨j, v, rfl, hj, rfl, s1, k, o1, n1⟩)
  · exact .inl h
  · exact .inr ⟨j, v, rfl, hj, rfl, (UBI.uniStep h1 (h3.frame hk0 (fun _ _ => id)) h4 h5 h6 hB ho s1 k (fun b h => .inl h)).1, k.mono (fun b _ h => ⟨h5 b h, h0.lt h⟩), o1, n1⟩

theorem ubLensI (h : UBI w B ob p r ρ vals ρ' vr) :
    Calls Try.prog 26 #[r] w (fun e w' => e = .returned (.int .i64 (vr.length : Int)) ∧ w = w') ∧
    Calls Try.prog 27 #[r] w (fun e w' => e = .returned (.int .i64 (roots vr.length ρ' : Int)) ∧ w = w') ∧
    Calls Try.prog 21 #[p] w (fun e w' => e = .returned (.int .i64 (vals.length : Int)) ∧ w = w') ∧
    Calls Try.prog 20 #[p] w (fun e w' => e = .returned (.int .i64 (roots vals.length ρ : Int)) ∧ w = w') := by
  obtain ⟨F, G, h1, h3, h4, h5, h6⟩ := h
  exact ⟨runLen h3, runCount h3, uniLenI h1, uniCountI h1⟩

end

end Go.Proofs.Ytodklnfdmcadkaa
