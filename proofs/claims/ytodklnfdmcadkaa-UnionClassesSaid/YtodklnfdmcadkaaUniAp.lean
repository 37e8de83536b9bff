/- The sets and the reference side by side, of numbers (no block kept out); Join's two outcomes as one. -/
import Derived.Test.YtodklnfdmcadkaaUniCI
import Derived.Test.YtodklnfdmcadkaaRefB06
import Derived.Test.YtodklnfdmcadkaaRws
namespace Go.Proofs.Ytodklnfdmcadkaa
open Go.RowKit
set_option linter.unusedVariables false
set_option linter.unusedSimpArgs false

/-- What Join makes of ρ, and its answer. -/
def JR (n : Nat) (i j : Int) (ρ ρ1 : Nat → Nat) (c : Int) : Prop :=
  (((i < 0 ∨ (n : Int) ≤ i) ∨ (j < 0 ∨ (n : Int) ≤ j)) ∧ c = 2 ∧ ρ1 = ρ) ∨ ∃ i' j' : Nat, i = i' ∧ j = j' ∧ i' < n ∧ j' < n ∧ c = 0 ∧ ρ1 = joinN ρ i' j'

theorem JR.unique {n : Nat} {i j : Int} {ρ ρ1 ρ2 : Nat → Nat} {c d : Int} (h : JR n i j ρ ρ1 c) (k : JR n i j ρ ρ2 d) : ρ1 = ρ2 ∧ c = d := by
  rcases h with ⟨hb, rfl, rfl⟩ | ⟨i1, j1, rfl, rfl, h1, h2, rfl, rfl⟩
  · rcases k with ⟨_, rfl, rfl⟩ | ⟨i1, j1, rfl, rfl, h1, h2, rfl, rfl⟩
    · exact ⟨rfl, rfl⟩
    · omega
  · rcases k with ⟨hb, rfl, rfl⟩ | ⟨i2, j2, e1, e2, h3, h4, rfl, rfl⟩
    · omega
    · obtain rfl : i1 = i2 := by omega
      obtain rfl : j1 = j2 := by omega
      exact ⟨rfl, rfl⟩

/-- The sets hold ρ, vals, the reference ρ', vr; their memory is apart and new since B. -/
def UA (w : World) (B : Nat) (p r : Value) (ρ : Nat → Nat) (vals : List Int) (ρ' : Nat → Nat) (vr : List Int) : Prop :=
  ∃ (F G : Nat → Prop), UniI w p F ρ vals ∧ RUn w r G ρ' vr ∧ (∀ b, F b → ¬ G b) ∧ (∀ b, F b → B ≤ b) ∧ ∀ b, G b → B ≤ b

section
variable {w w' : World} {B : Nat} {p r : Value} {ρ ρ' : Nat → Nat} {vals vr : List Int}

theorem UA.kept (h : UA w B p r ρ vals ρ' vr) (hk : Kept (fun _ => False) w w') : UA w' B p r ρ vals ρ' vr := by
  obtain ⟨F, G, h1, h3, h4⟩ := h
  exact ⟨F, G, h1.frame hk (fun _ _ => id), h3.frame hk (fun _ _ => id), h4⟩

theorem UA.refStep {F G G' : Nat → Prop} {ρ1 : Nat → Nat} {vr1 : List Int} (h1 : UniI w p F ρ vals) (h3 : RUn w r G ρ' vr) (h4 : ∀ b, F b → ¬ G b) (h5 : ∀ b, F b → B ≤ b) (h6 : ∀ b, G b → B ≤ b) (hB : B ≤ w.heap.size)
    (r1 : RUn w' r G' ρ1 vr1) (k : Kept G w w') (g : ∀ b, G' b → G b ∨ w.heap.size ≤ b) : UA w' B p r ρ vals ρ1 vr1 ∧ Kept (fun b => B ≤ b) w w' :=
  ⟨⟨F, G', h1.frame k h4, r1, fun b hf hg => (g b hg).elim (h4 b hf) (fun h' => by have := h1.lt hf; omega), h5, fun b hg => (g b hg).elim (h6 b) (fun h' => Nat.le_trans hB h')⟩, k.mono (fun b _ h => h6 b h)⟩

theorem UA.uniStep {F F' G : Nat → Prop} {ρ1 : Nat → Nat} {vals1 : List Int} (h1 : UniI w p F ρ vals) (h3 : RUn w r G ρ' vr) (h4 : ∀ b, F b → ¬ G b) (h5 : ∀ b, F b → B ≤ b) (h6 : ∀ b, G b → B ≤ b) (hB : B ≤ w.heap.size)
    (s1 : UniI w' p F' ρ1 vals1) (k : Kept F w w') (f : ∀ b, F' b → F b ∨ w.heap.size ≤ b) : UA w' B p r ρ1 vals1 ρ' vr ∧ Kept (fun b => B ≤ b) w w' :=
  ⟨⟨F', G, s1, h3.frame k (fun b hg hf => h4 b hf hg), fun b hf hg => (f b hf).elim (fun h' => h4 b h' hg) (fun h' => by have := h3.lt hg; omega), fun b hf => (f b hf).elim (h5 b) (fun h' => Nat.le_trans hB h'), h6⟩, k.mono (fun b _ h => h5 b h)⟩

theorem uaRefAdd (h : UA w B p r ρ vals ρ' vr) (hB : B ≤ w.heap.size) (x : Int) (hf : Fits (vr.length + 1) 8) :
    Calls Try.prog 10 #[r, .int .i64 x] w fun e w' => e = .returned (.int .i64 (vr.length : Int)) ∧ UA w' B p r ρ vals (fun j => if j = vr.length then vr.length else ρ' j) (vr ++ [x]) ∧ Kept (fun b => B ≤ b) w w' := by
  obtain ⟨F, G, h1, h3, h4, h5, h6⟩ := h
  refine (runAdd h3 x hf).mono ?_
  rintro e w' ⟨rfl, G', r1, k, g⟩
  exact ⟨rfl, UA.refStep h1 h3 h4 h5 h6 hB r1 k g⟩

theorem uaAdd (h : UA w B p r ρ vals ρ' vr) (hB : B ≤ w.heap.size) (x : Int) (hf : Fits (vals.length + 1) 24) :
    Calls Try.prog 11 #[p, .int .i64 x] w fun e w' => e = .returned (.tuple #[.int .i64 (vals.length : Int), .int .i64 0]) ∧ UA w' B p r (fun j => if j = vals.length then vals.length else ρ j) (vals ++ [x]) ρ' vr ∧ Kept (fun b => B ≤ b) w w' := by
  obtain ⟨F, G, h1, h3, h4, h5, h6⟩ := h
  refine (uniAddI h1 x hf).mono ?_
  rintro e w' ⟨rfl, F', s1, k, f⟩
  exact ⟨rfl, UA.uniStep h1 h3 h4 h5 h6 hB s1 k f⟩

theorem uaRefJoin (h : UA w B p r ρ vals ρ' vr) (hB : B ≤ w.heap.size) (i j : Int) :
    Calls Try.prog 12 #[r, .int .i64 i, .int .i64 j] w fun e w' => ∃ ρ1 c, e = .returned (.int .i64 c) ∧ JR vr.length i j ρ' ρ1 c ∧ UA w' B p r ρ vals ρ1 vr ∧ Kept (fun b => B ≤ b) w w' := by
  obtain ⟨F, G, h1, h3, h4, h5, h6⟩ := h
  refine (runJoin h3 i j).mono ?_
  rintro e w' (⟨hb, rfl, rfl⟩ | ⟨i', j', rfl, rfl, hi, hj, rfl, s1, k⟩)
  · exact ⟨_, _, rfl, .inl ⟨hb, rfl, rfl⟩, ⟨F, G, h1, h3, h4, h5, h6⟩, Kept.refl _ _⟩
  · exact ⟨_, _, rfl, .inr ⟨i', j', rfl, rfl, hi, hj, rfl, rfl⟩, UA.refStep h1 h3 h4 h5 h6 hB s1 k (fun b h => .inl h)⟩

theorem uniJR {F : Nat → Prop} (h : UniI w p F ρ vals) (i j : Int) :
    Calls Try.prog 13 #[p, .int .i64 i, .int .i64 j] w fun e w' => ∃ ρ1 c, e = .returned (.int .i64 c) ∧ JR vals.length i j ρ ρ1 c ∧ UniI w' p F ρ1 vals ∧ Kept F w w' := by
  refine (uniJoinI h i j).mono ?_
  rintro e w' (⟨hb, rfl, s1, k⟩ | ⟨i', j', rfl, rfl, hi, hj, rfl, s1, k⟩)
  · exact ⟨_, _, rfl, .inl ⟨hb, rfl, rfl⟩, s1, k⟩
  · exact ⟨_, _, rfl, .inr ⟨i', j', rfl, rfl, hi, hj, rfl, rfl⟩, s1, k⟩

theorem uaJoin (h : UA w B p r ρ vals ρ' vr) (hB : B ≤ w.heap.size) (i j : Int) :
    Calls Try.prog 13 #[p, .int .i64 i, .int .i64 j] w fun e w' => ∃ ρ1 c, e = .returned (.int .i64 c) ∧ JR vals.length i j ρ ρ1 c ∧ UA w' B p r ρ1 vals ρ' vr ∧ Kept (fun b => B ≤ b) w w' := by
  obtain ⟨F, G, h1, h3, h4, h5, h6⟩ := h
  refine (uniJR h1 i j).mono ?_
  rintro e w' ⟨ρ1, c, rfl, hj, s1, k⟩
  exact ⟨ρ1, c, rfl, hj, UA.uniStep h1 h3 h4 h5 h6 hB s1 k (fun b h => .inl h)⟩

end

/-- The numbers below n. -/
def seqI (n : Nat) : List Int := (List.range n).map fun (k : Nat) => (k : Int)

theorem seqI_length (n : Nat) : (seqI n).length = n := by simp [seqI]
theorem seqI_succ (n : Nat) : seqI (n + 1) = seqI n ++ [(n : Int)] := by simp [seqI, List.range_succ]

end Go.Proofs.Ytodklnfdmcadkaa
