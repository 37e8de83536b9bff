/- The sets and the reference side by side: contracts by contents. -/
import Derived.Test.YtodklnfdmcadkaaUniCS
import Derived.Test.YtodklnfdmcadkaaRefB06
namespace Go.Proofs.Ytodklnfdmcadkaa
open Go.RowKit
set_option linter.unusedVariables false
set_option linter.unusedSimpArgs false

/-- The sets hold ρ, vals, the reference ρ', vr; their memory is apart, new since B, and ob is kept out. -/
def UBS (w : World) (B ob : Nat) (p r : Value) (ρ : Nat → Nat) (vals : List (List UInt8)) (ρ' : Nat → Nat) (vr : List Int) : Prop :=
  ∃ (F G : Nat → Prop), UniS w p F ρ vals ∧ RUn w r G ρ' vr ∧ (∀ b, F b → ¬ G b) ∧ (∀ b, F b → B ≤ b ∧ b ≠ ob) ∧ ∀ b, G b → B ≤ b ∧ b ≠ ob

section
variable {w w' : World} {B ob : Nat} {p r : Value} {ρ ρ' : Nat → Nat} {vals : List (List UInt8)} {vr : List Int}

theorem UBS.kept (h : UBS w B ob p r ρ vals ρ' vr) (hk : Kept (fun _ => False) w w') : UBS w' B ob p r ρ vals ρ' vr := by
  obtain ⟨F, G, h1, h3, h4⟩ := h
  exact ⟨F, G, h1.frame hk (fun _ _ => id), h3.frame hk (fun _ _ => id), h4⟩

theorem UBS.out (h : UBS w B ob p r ρ vals ρ' vr) {o : Nat} (hk : Kept (fun _ => False) w w') (hn : w.heap.size ≤ o) : UBS w' B o p r ρ vals ρ' vr := by
  obtain ⟨F, G, h1, h3, h4, h5, h6⟩ := h
  exact ⟨F, G, h1.frame hk (fun _ _ => id), h3.frame hk (fun _ _ => id), h4, fun b hb => ⟨(h5 b hb).1, by have := h1.lt hb; omega⟩, fun b hb => ⟨(h6 b hb).1, by have := h3.lt hb; omega⟩⟩

theorem UBS.le (h : UBS w B ob p r ρ vals ρ' vr) {j : Nat} (hj : j < vals.length) : ρ j ≤ j := by
  obtain ⟨F, G, h1, _⟩ := h
  exact h1.le hj

theorem UBS.refStep {F G G' : Nat → Prop} {ρ1 : Nat → Nat} {vr1 : List Int} (h1 : UniS w p F ρ vals) (h3 : RUn w r G ρ' vr) (h4 : ∀ b, F b → ¬ G b) (h5 : ∀ b, F b → B ≤ b ∧ b ≠ ob) (h6 : ∀ b, G b → B ≤ b ∧ b ≠ ob) (hB : B ≤ w.heap.size) (ho : ob < w.heap.size)
    (r1 : RUn w' r G' ρ1 vr1) (k : Kept G w w') (g : ∀ b, G' b → G b ∨ w.heap.size ≤ b) : UBS w' B ob p r ρ vals ρ1 vr1 ∧ Kept (fun b => B ≤ b ∧ b ≠ ob) w w' :=
  ⟨⟨F, G', h1.frame k h4, r1, fun b hf hg => (g b hg).elim (h4 b hf) (fun h' => by have := h1.lt hf; omega), h5, fun b hg => (g b hg).elim (h6 b) (fun h' => ⟨Nat.le_trans hB h', by omega⟩)⟩, k.mono (fun b _ h => h6 b h)⟩

theorem UBS.uniStep {F F' G : Nat → Prop} {ρ1 : Nat → Nat} {vals1 : List (List UInt8)} (h1 : UniS w p F ρ vals) (h3 : RUn w r G ρ' vr) (h4 : ∀ b, F b → ¬ G b) (h5 : ∀ b, F b → B ≤ b ∧ b ≠ ob) (h6 : ∀ b, G b → B ≤ b ∧ b ≠ ob) (hB : B ≤ w.heap.size) (ho : ob < w.heap.size)
    (s1 : UniS w' p F' ρ1 vals1) (k : Kept F w w') (f : ∀ b, F' b → F b ∨ w.heap.size ≤ b) : UBS w' B ob p r ρ1 vals1 ρ' vr ∧ Kept (fun b => B ≤ b ∧ b ≠ ob) w w' :=
  ⟨⟨F', G, s1, h3.frame k (fun b hg hf => h4 b hf hg), fun b hf hg => (f b hf).elim (fun h' => h4 b h' hg) (fun h' => by have := h3.lt hg; omega), fun b hf => (f b hf).elim (h5 b) (fun h' => ⟨Nat.le_trans hB h', by omega⟩), h6⟩, k.mono (fun b _ h => h5 b h)⟩

theorem ubRefAddS (h : UBS w B ob p r ρ vals ρ' vr) (hB : B ≤ w.heap.size) (ho : ob < w.heap.size) (x : Int) (hf : Fits (vr.length + 1) 8) :
    Calls Try.prog 10 #[r, .int .i64 x] w fun e w' => e = .returned (.int .i64 (vr.length : Int)) ∧ UBS w' B ob p r ρ vals (fun j => if j = vr.length then vr.length else ρ' j) (vr ++ [x]) ∧ Kept (fun b => B ≤ b ∧ b ≠ ob) w w' := by
  obtain ⟨F, G, h1, h3, h4, h5, h6⟩ := h
  refine (runAdd h3 x hf).mono ?_
  rintro e w' ⟨rfl, G', r1, k, g⟩
  exact ⟨rfl, UBS.refStep h1 h3 h4 h5 h6 hB ho r1 k g⟩

theorem ubAddS (h : UBS w B ob p r ρ vals ρ' vr) (hB : B ≤ w.heap.size) (ho : ob < w.heap.size) (x : List UInt8) (hf : Fits (vals.length + 1) 32) :
    Calls Try.prog 29 #[p, encS x] w fun e w' => e = .returned (.tuple #[.int .i64 (vals.length : Int), .int .i64 0]) ∧ UBS w' B ob p r (fun j => if j = vals.length then vals.length else ρ j) (vals ++ [x]) ρ' vr ∧ Kept (fun b => B ≤ b ∧ b ≠ ob) w w' := by
  obtain ⟨F, G, h1, h3, h4, h5, h6⟩ := h
  refine (uniAddS h1 x hf).mono ?_
  rintro e w' ⟨rfl, F', s1, k, f⟩
  exact ⟨rfl, UBS.uniStep h1 h3 h4 h5 h6 hB ho s1 k f⟩

theorem ubRefFindS (h : UBS w B ob p r ρ vals ρ' vr) (i : Int) :
    Calls Try.prog 22 #[r, .int .i64 i] w fun e w' => ((i < 0 ∨ (vr.length : Int) ≤ i) ∧ e = .returned (.tuple #[.int .i64 0, .int .i64 2]) ∧ w = w') ∨
      ∃ j : Nat, i = j ∧ j < vr.length ∧ e = .returned (.tuple #[.int .i64 (ρ' j : Int), .int .i64 0]) ∧ w = w' := by
  obtain ⟨F, G, h1, h3, h4, h5, h6⟩ := h
  exact runFind h3 i

theorem ubFindS (h : UBS w B ob p r ρ vals ρ' vr) (hB : B ≤ w.heap.size) (ho : ob < w.heap.size) (i : Int) :
    Calls Try.prog 31 #[p, .int .i64 i] w fun e w' => ((i < 0 ∨ (vals.length : Int) ≤ i) ∧ e = .returned (.tuple #[.int .i64 0, .int .i64 2]) ∧ w = w') ∨
      ∃ j : Nat, i = j ∧ j < vals.length ∧ e = .returned (.tuple #[.int .i64 (ρ j : Int), .int .i64 0]) ∧ UBS w' B ob p r ρ vals ρ' vr ∧ Kept (fun b => B ≤ b ∧ b ≠ ob) w w' := by
  obtain ⟨F, G, h1, h3, h4, h5, h6⟩ := h
  refine (uniFindS h1 i).mono ?_
  rintro e w' (h | ⟨j, rfl, hj, rfl, s1, k⟩)
  · exact .inl h
  · exact .inr ⟨j, rfl, hj, rfl, UBS.uniStep h1 h3 h4 h5 h6 hB ho s1 k (fun b h => .inl h)⟩

theorem ubRefJoinS (h : UBS w B ob p r ρ vals ρ' vr) (hB : B ≤ w.heap.size) (ho : ob < w.heap.size) (i j : Int) :
    Calls Try.prog 12 #[r, .int .i64 i, .int .i64 j] w fun e w' => (((i < 0 ∨ (vr.length : Int) ≤ i) ∨ (j < 0 ∨ (vr.length : Int) ≤ j)) ∧ e = .returned (.int .i64 2) ∧ w = w') ∨
      ∃ i' j' : Nat, i = i' ∧ j = j' ∧ i' < vr.length ∧ j' < vr.length ∧ e = .returned (.int .i64 0) ∧ UBS w' B ob p r ρ vals (joinN ρ' i' j') vr ∧ Kept (fun b => B ≤ b ∧ b ≠ ob) w w' := by
  obtain ⟨F, G, h1, h3, h4, h5, h6⟩ := h
  refine (runJoin h3 i j).mono ?_
  rintro e w' (h | ⟨i', j', rfl, rfl, hi, hj, rfl, s1, k⟩)
  · exact .inl h
  · exact .inr ⟨i', j', rfl, rfl, hi, hj, rfl, UBS.refStep h1 h3 h4 h5 h6 hB ho s1 k (fun b h => .inl h)⟩

theorem ubJoinS (h : UBS w B ob p r ρ vals ρ' vr) (hB : B ≤ w.heap.size) (ho : ob < w.heap.size) (i j : Int) :
    Calls Try.prog 32 #[p, .int .i64 i, .int .i64 j] w fun e w' => (((i < 0 ∨ (vals.length : Int) ≤ i) ∨ (j < 0 ∨ (vals.length : Int) ≤ j)) ∧ e = .returned (.int .i64 2) ∧ UBS w' B ob p r ρ vals ρ' vr ∧ Kept (fun b => B ≤ b ∧ b ≠ ob) w w') ∨
      ∃ i' j' : Nat, i = i' ∧ j = j' ∧ i' < vals.length ∧ j' < vals.length ∧ e = .returned (.int .i64 0) ∧ UBS w' B ob p r (joinN ρ i' j') vals ρ' vr ∧ Kept (fun b => B ≤ b ∧ b ≠ ob) w w' := by
  obtain ⟨F, G, h1, h3, h4, h5, h6⟩ := h
  refine (uniJoinS h1 i j).mono ?_
  rintro e w' (⟨hb, rfl, s1, k⟩ | ⟨i', j', rfl, rfl, hi, hj, rfl, s1, k⟩)
  · exact .inl ⟨hb, rfl, UBS.uniStep h1 h3 h4 h5 h6 hB ho s1 k (fun b h => .inl h)⟩
  · exact .inr ⟨i', j', rfl, rfl, hi, hj, rfl, UBS.uniStep h1 h3 h4 h5 h6 hB ho s1 k (fun b h => .inl h)⟩

theorem ubRefGetS (h : UBS w B ob p r ρ vals ρ' vr) (i : Int) :
    Calls Try.prog 23 #[r, .int .i64 i] w fun e w' => ((i < 0 ∨ (vr.length : Int) ≤ i) ∧ e = .returned (.tuple #[.int .i64 0, .int .i64 2]) ∧ w = w') ∨
      ∃ (j : Nat) (x : Int), i = j ∧ j < vr.length ∧ vr[ρ' j]? = some x ∧ e = .returned (.tuple #[.int .i64 x, .int .i64 0]) ∧ Kept (fun _ => False) w w' := by
  obtain ⟨F, G, h1, h3, h4, h5, h6⟩ := h
  exact runGet h3 i

theorem ubGetS (h : UBS w B ob p r ρ vals ρ' vr) (hB : B ≤ w.heap.size) (ho : ob < w.heap.size) (i : Int) :
    Calls Try.prog 33 #[p, .int .i64 i] w fun e w' => ((i < 0 ∨ (vals.length : Int) ≤ i) ∧ e = .returned (.tuple #[.string ⟨#[]⟩, .int .i64 2]) ∧ w = w') ∨
      ∃ (j : Nat) (x : List UInt8), i = j ∧ j < vals.length ∧ vals[ρ j]? = some x ∧ e = .returned (.tuple #[encS x, .int .i64 0]) ∧ UBS w' B ob p r ρ vals ρ' vr ∧ Kept (fun b => B ≤ b ∧ b ≠ ob) w w' := by
  obtain ⟨F, G, h1, h3, h4, h5, h6⟩ := h
  refine (uniGetS h1 i).mono ?_
  rintro e w' (h | ⟨j, x, rfl, hj, hx, rfl, s1, k⟩)
  · exact .inl h
  · exact .inr ⟨j, x, rfl, hj, hx, rfl, UBS.uniStep h1 h3 h4 h5 h6 hB ho s1 k (fun b h => .inl h)⟩

theorem ubRefPutS (h : UBS w B ob p r ρ vals ρ' vr) (hB : B ≤ w.heap.size) (ho : ob < w.heap.size) (i x : Int) :
    Calls Try.prog 24 #[r, .int .i64 i, .int .i64 x] w fun e w' => ((i < 0 ∨ (vr.length : Int) ≤ i) ∧ e = .returned (.int .i64 2) ∧ w = w') ∨
      ∃ (j : Nat), i = j ∧ j < vr.length ∧ e = .returned (.int .i64 0) ∧ UBS w' B ob p r ρ vals ρ' (vr.set (ρ' j) x) ∧ Kept (fun b => B ≤ b ∧ b ≠ ob) w w' := by
  obtain ⟨F, G, h1, h3, h4, h5, h6⟩ := h
  refine (runPut h3 i x).mono ?_
  rintro e w' (h | ⟨j, rfl, hj, rfl, s1, k⟩)
  · exact .inl h
  · exact .inr ⟨j, rfl, hj, rfl, UBS.refStep h1 h3 h4 h5 h6 hB ho s1 k (fun b h => .inl h)⟩

theorem ubPutS (h : UBS w B ob p r ρ vals ρ' vr) (hB : B ≤ w.heap.size) (ho : ob < w.heap.size) (i : Int) (x : List UInt8) :
    Calls Try.prog 34 #[p, .int .i64 i, encS x] w fun e w' => ((i < 0 ∨ (vals.length : Int) ≤ i) ∧ e = .returned (.int .i64 2) ∧ w = w') ∨
      ∃ (j : Nat), i = j ∧ j < vals.length ∧ e = .returned (.int .i64 0) ∧ UBS w' B ob p r ρ (vals.set (ρ j) x) ρ' vr ∧ Kept (fun b => B ≤ b ∧ b ≠ ob) w w' := by
  obtain ⟨F, G, h1, h3, h4, h5, h6⟩ := h
  refine (uniPutS h1 i x).mono ?_
  rintro e w' (h | ⟨j, rfl, hj, rfl, s1, k⟩)
  · exact .inl h
  · exact .inr ⟨j, rfl, hj, rfl, UBS.uniStep h1 h3 h4 h5 h6 hB ho s1 k (fun b h => .inl h)⟩

theorem ubRefClassS (h : UBS w B ob p r ρ vals ρ' vr) (i : Int) (hn : vr.length * 8 ≤ 140737488355328) :
    Calls Try.prog 15 #[r, .int .i64 i] w fun e w' => ((i < 0 ∨ (vr.length : Int) ≤ i) ∧ e = .returned (.tuple #[.slice none 0 0, .int .i64 2]) ∧ w = w') ∨
      ∃ (j : Nat) (v : Value), i = j ∧ j < vr.length ∧ e = .returned (.tuple #[v, .int .i64 0]) ∧ Fresh w w' 3 1 v (clsOf vr.length ρ' (ρ' j)).length (cellsOf encI (clsOf vr.length ρ' (ρ' j))) := by
  obtain ⟨F, G, h1, h3, h4, h5, h6⟩ := h
  exact runClass h3 i hn

theorem ubClassS {w0 : World} (h : UBS w0 B ob p r ρ vals ρ' vr) (hk0 : Kept (fun _ => False) w0 w) (hB : B ≤ w.heap.size) (ho : ob < w.heap.size) (i : Int) (hn : vals.length * 8 ≤ 140737488355328) :
    Calls Try.prog 35 #[p, .int .i64 i] w fun e w' => ((i < 0 ∨ (vals.length : Int) ≤ i) ∧ e = .returned (.tuple #[.slice none 0 0, .int .i64 2]) ∧ w = w') ∨
      ∃ (j : Nat) (v : Value), i = j ∧ j < vals.length ∧ e = .returned (.tuple #[v, .int .i64 0]) ∧ UBS w' B ob p r ρ vals ρ' vr ∧ Kept (fun b => (B ≤ b ∧ b ≠ ob) ∧ b < w0.heap.size) w w' ∧
      Own w' 3 1 v (clsOf vals.length ρ (ρ j)).length (cellsOf encI (clsOf vals.length ρ (ρ j))) ∧ ∀ b, v.ownBlock = some b → w.heap.size ≤ b := by
  obtain ⟨F, G, h0, h3, h4, h5, h6⟩ := h
  have h1 := h0.frame hk0 (fun _ _ => id)
  refine (uniClassS h1 i hn).mono ?_
  rintro e w' (h | ⟨j, v, rfl, hj, rfl, s1, k, o1, n1⟩)
  · exact .inl h
  · exact .inr ⟨j, v, rfl, hj, rfl, (UBS.uniStep h1 (h3.frame hk0 (fun _ _ => id)) h4 h5 h6 hB ho s1 k (fun b h => .inl h)).1, k.mono (fun b _ h => ⟨h5 b h, h0.lt h⟩), o1, n1⟩

theorem ubLensS (h : UBS w B ob p r ρ vals ρ' vr) :
    Calls Try.prog 26 #[r] w (fun e w' => e = .returned (.int .i64 (vr.length : Int)) ∧ w = w') ∧
    Calls Try.prog 27 #[r] w (fun e w' => e = .returned (.int .i64 (roots vr.length ρ' : Int)) ∧ w = w') ∧
    Calls Try.prog 36 #[p] w (fun e w' => e = .returned (.int .i64 (vals.length : Int)) ∧ w = w') ∧
    Calls Try.prog 37 #[p] w (fun e w' => e = .returned (.int .i64 (roots vals.length ρ : Int)) ∧ w = w') := by
  obtain ⟨F, G, h1, h3, h4, h5, h6⟩ := h
  exact ⟨runLen h3, runCount h3, uniLenS h1, uniCountS h1⟩

end

end Go.Proofs.Ytodklnfdmcadkaa
