/- Plain: a graph as lists of lists of numbers; marks; an iterative depth-first walk, its order, its measure. -/
import Derived.Test.YtncloielmfplpaaDfs
namespace Go.Proofs.Ytncloielmfplpaa
set_option linter.unusedVariables false
set_option linter.unusedSimpArgs false

/-- What the thing at x uses. -/
def nxt (L : List (List Nat)) (x : Nat) : List Nat := L.getD x []

theorem nxt_get {L : List (List Nat)} {x : Nat} (h : x < L.length) : nxt L x = L[x] := by simp [nxt, h]
theorem nxt_out {L : List (List Nat)} {x z : Nat} (h : z ∈ nxt L x) : x < L.length := by
  rcases Nat.lt_or_ge x L.length with h1 | h1
  · exact h1
  · simp [nxt, List.getD, List.getElem?_eq_none h1] at h

/-- The lists of lists of pairs. -/
def adjP (n : Nat) (A : List (Nat × Nat)) : List (List Nat) := (List.range n).map fun a => (A.filter fun u => u.1 == a).map (·.2)

theorem adjP_length (n : Nat) (A : List (Nat × Nat)) : (adjP n A).length = n := by simp [adjP]
theorem adjP_nil (n : Nat) : adjP n [] = List.replicate n [] := by
  unfold adjP
  simp [List.map_const']
theorem adjP_get {n : Nat} (A : List (Nat × Nat)) {a : Nat} (h : a < (adjP n A).length) : (adjP n A)[a] = (A.filter fun u => u.1 == a).map (·.2) := by simp [adjP]
theorem adjP_snoc {n : Nat} (A : List (Nat × Nat)) {a b : Nat} (ha : a < (adjP n A).length) : adjP n (A ++ [(a, b)]) = (adjP n A).set a ((adjP n A)[a] ++ [b]) := by
  apply List.ext_getElem (by simp [adjP])
  intro i h1 h2
  rw [adjP_get, List.getElem_set, List.filter_append, List.map_append]
  split
  · rename_i e
    subst e
    rw [adjP_get]
    simp
  · rename_i e
    rw [adjP_get]
    simp [e]
theorem mem_adjP {n : Nat} {A : List (Nat × Nat)} {a b : Nat} : b ∈ nxt (adjP n A) a ↔ a < n ∧ (a, b) ∈ A := by
  constructor
  · intro h
    have h1 := nxt_out h
    rw [nxt_get h1, adjP_get] at h
    rw [adjP_length] at h1
    refine ⟨h1, ?_⟩
    obtain ⟨u, hu, rfl⟩ := List.mem_map.1 h
    obtain ⟨h2, h3⟩ := List.mem_filter.1 hu
    have : u.1 = a := by simpa using h3
    subst this
    exact h2
  · rintro ⟨h1, h2⟩
    rw [nxt_get (by rw [adjP_length]; exact h1), adjP_get]
    exact List.mem_map.2 ⟨(a, b), List.mem_filter.2 ⟨h2, by simp⟩, rfl⟩
theorem adjP_le {n : Nat} (A : List (Nat × Nat)) (a : Nat) : (nxt (adjP n A) a).length ≤ A.length := by
  rcases Nat.lt_or_ge a (adjP n A).length with h1 | h1
  · rw [nxt_get h1, adjP_get, List.length_map]
    exact List.length_filter_le _ _
  · simp [nxt, List.getD, List.getElem?_eq_none h1]

/-- The pairs of places. -/
def prs {α : Type} [BEq α] [LawfulBEq α] (nodes : List α) (uses : List (α × α)) : List (Nat × Nat) := uses.map fun u => (nodes.idxOf u.1, nodes.idxOf u.2)

open Classical in
/-- ErrTwice, ErrNone or OK. -/
noncomputable def errOf {α : Type} (nodes : List α) (uses : List (α × α)) : Int := if nodes.Nodup then (if ∀ u ∈ uses, u.1 ∈ nodes ∧ u.2 ∈ nodes then 0 else 6) else 5

/-- The graph of things and pairs. -/
def graphL {α : Type} [BEq α] [LawfulBEq α] (nodes : List α) (uses : List (α × α)) : List (List Nat) := adjP nodes.length (prs nodes uses)

theorem graphL_length {α : Type} [BEq α] [LawfulBEq α] (nodes : List α) (uses : List (α × α)) : (graphL nodes uses).length = nodes.length := adjP_length _ _

theorem graphL_lt {α : Type} [BEq α] [LawfulBEq α] {nodes : List α} {uses : List (α × α)} (h : ∀ u ∈ uses, u.1 ∈ nodes ∧ u.2 ∈ nodes) {a b : Nat} (hb : b ∈ nxt (graphL nodes uses) a) : b < nodes.length := by
  obtain ⟨_, h2⟩ := mem_adjP.1 hb
  obtain ⟨u, hu, e⟩ := List.mem_map.1 h2
  simp only [Prod.mk.injEq] at e
  rw [← e.2]
  exact List.idxOf_lt_length_of_mem (h u hu).2

/-- Does b lie on a road from a? -/
noncomputable def rb (L : List (List Nat)) (a b : Nat) : Bool := @decide (Reach (nxt L) a b) (Classical.propDecidable _)
theorem rb_iff {L : List (List Nat)} {a b : Nat} : rb L a b = true ↔ Reach (nxt L) a b := by simp [rb]

theorem Reach.lt {L : List (List Nat)} {n a b : Nat} (hL : ∀ x z, z ∈ nxt L x → z < n) (ha : a < n) (h : Reach (nxt L) a b) : b < n := by
  cases h with
  | refl => exact ha
  | step _ hc => exact hL _ _ hc

/-! ### marks -/

/-- S with x set. -/
def setB (S : Nat → Bool) (x : Nat) : Nat → Bool := fun y => if y = x then true else S y
theorem setB_iff {S : Nat → Bool} {x y : Nat} : setB S x y = true ↔ S y = true ∨ y = x := by
  unfold setB
  by_cases h : y = x <;> simp [h]

/-- How many below n are not marked. -/
def um (n : Nat) (S : Nat → Bool) : Nat := ((List.range n).filter fun x => !S x).length
theorem um_le (n : Nat) (S : Nat → Bool) : um n S ≤ n := by
  have := List.length_filter_le (fun x => !S x) (List.range n)
  simpa [um] using this
theorem um_set {n : Nat} {S : Nat → Bool} {x : Nat} (hx : x < n) (h : S x = false) : um n (setB S x) + 1 = um n S := by
  unfold um
  have h1 : (List.range n).filter (fun y => !setB S x y) = ((List.range n).filter (fun y => !S y)).erase x := by
    rw [List.Nodup.erase_eq_filter (List.nodup_range.filter _), List.filter_filter]
    refine List.filter_congr (fun y _ => ?_)
    unfold setB
    by_cases e : y = x
    · simp [e]
    · simp [e]
  have hm : x ∈ (List.range n).filter (fun y => !S y) := List.mem_filter.2 ⟨List.mem_range.2 hx, by simp [h]⟩
  have := List.length_pos_of_mem hm
  rw [h1, List.length_erase_of_mem hm]
  omega

/-- What marks hold when nothing is left to do. -/
theorem reach_done {nx : Nat → List Nat} {S : Nat → Bool} {a : Nat} (h0 : S a = true) (hs : ∀ x, S x = true → Reach nx a x) (hc : ∀ x z, S x = true → z ∈ nx x → S z = true) (x : Nat) : S x = true ↔ Reach nx a x := by
  refine ⟨hs x, fun h => ?_⟩
  induction h with
  | refl => exact h0
  | step _ hz ih => exact hc _ _ ih hz

/-! ### the walk -/

theorem Run.append {nx : Nat → List Nat} {S : Nat → Prop} {ys zs L M : List Nat} (h : Run nx S ys L) (k : Run nx (fun x => S x ∨ x ∈ L) zs M) : Run nx S (ys ++ zs) (L ++ M) := by
  induction h generalizing zs M with
  | nil => exact k.congr (by simp)
  | skip hy _ ih => exact .skip hy (ih k)
  | @visit S y ys L1 L2 hy h1 h2 _ ih2 =>
    have : (L1 ++ y :: L2) ++ M = L1 ++ y :: (L2 ++ M) := by simp
    rw [List.cons_append, this]
    refine .visit hy h1 (ih2 (k.congr fun x => ?_))
    simp only [List.mem_append, List.mem_cons]
    constructor
    · rintro (h | h | rfl | h)
      · exact .inl (.inl h)
      · exact .inl (.inr (.inr h))
      · exact .inl (.inr (.inl rfl))
      · exact .inr h
    · rintro ((h | rfl | h) | h)
      · exact .inl h
      · exact .inr (.inr (.inl rfl))
      · exact .inr (.inl h)
      · exact .inr (.inr (.inr h))

/-- What is finished yet, where the path's steps (the last one first) stand at their k-th use. -/
inductive Compl (nx : Nat → List Nat) : (Nat → Prop) → List (Nat × Nat) → List Nat → Prop
  | nil {S : Nat → Prop} : Compl nx S [] []
  | cons {S : Nat → Prop} {a k : Nat} {path : List (Nat × Nat)} {L1 L2 : List Nat} : Run nx S ((nx a).drop k) L1 → Compl nx (fun x => S x ∨ x ∈ L1) path L2 → Compl nx S ((a, k) :: path) (L1 ++ a :: L2)

theorem Compl.congr {nx : Nat → List Nat} {S T : Nat → Prop} {path : List (Nat × Nat)} {L : List Nat} (h : Compl nx S path L) (hs : ∀ x, S x ↔ T x) : Compl nx T path L := by
  obtain rfl : S = T := funext fun x => propext (hs x)
  exact h

/-- The walk's invariant: S is met, M is finished. -/
structure WInv (nx : Nat → List Nat) (S0 : Nat → Prop) (a0 : Nat) (S : Nat → Bool) (M : List Nat) (path : List (Nat × Nat)) : Prop where
  fin : ∀ M', Compl nx (fun x => S x = true) path M' → Run nx S0 [a0] (M ++ M')
  seen : ∀ x, S x = true ↔ S0 x ∨ x ∈ M ∨ x ∈ path.map (·.1)

section
variable {nx : Nat → List Nat} {S0 : Nat → Prop} {a0 : Nat} {S : Nat → Bool} {M : List Nat} {path : List (Nat × Nat)} {a k : Nat}

theorem WInv.start (h : ¬ S0 a0) (hS : ∀ x, S x = true ↔ S0 x) : WInv nx S0 a0 (setB S a0) [] [(a0, 0)] := by
  refine ⟨fun M' hM => ?_, fun x => ?_⟩
  · cases hM with
    | cons h1 h2 =>
      cases h2
      rw [List.drop_zero] at h1
      refine .visit h (h1.congr fun x => ?_) .nil
      rw [setB_iff, hS]
  · rw [setB_iff, hS]
    simp

theorem WInv.finish (h : WInv nx S0 a0 S M ((a, k) :: path)) (hk : (nx a).length ≤ k) : WInv nx S0 a0 S (M ++ [a]) path := by
  refine ⟨fun M' hM => ?_, fun x => ?_⟩
  · have := h.fin ([] ++ a :: M') (.cons (by rw [List.drop_of_length_le hk]; exact .nil) (hM.congr (by simp)))
    simpa using this
  · rw [h.seen]
    simp only [List.map_cons, List.mem_cons, List.mem_append, List.not_mem_nil, or_false]
    constructor
    · rintro (h | h | h | h) <;> simp [h]
    · rintro (h | (h | h) | h) <;> simp [h]

theorem WInv.skip (h : WInv nx S0 a0 S M ((a, k) :: path)) (hk : k < (nx a).length) (hs : S (nx a)[k] = true) : WInv nx S0 a0 S M ((a, k + 1) :: path) := by
  refine ⟨fun M' hM => ?_, fun x => by rw [h.seen]; rfl⟩
  cases hM with
  | cons h1 h2 =>
    refine h.fin _ (.cons ?_ h2)
    rw [List.drop_eq_getElem_cons hk]
    exact .skip hs h1

theorem WInv.visit (h : WInv nx S0 a0 S M ((a, k) :: path)) (hk : k < (nx a).length) (hs : S (nx a)[k] = false) : WInv nx S0 a0 (setB S (nx a)[k]) M (((nx a)[k], 0) :: (a, k + 1) :: path) := by
  refine ⟨fun M' hM => ?_, fun x => ?_⟩
  · cases hM with
    | @cons _ _ _ _ L1 L2 h1 h2 =>
      cases h2 with
      | @cons _ _ _ _ L3 L4 h3 h4 =>
        rw [List.drop_zero] at h1
        have e : L1 ++ (nx a)[k] :: (L3 ++ a :: L4) = (L1 ++ (nx a)[k] :: L3) ++ a :: L4 := by simp
        rw [e]
        refine h.fin _ (.cons ?_ (h4.congr fun x => ?_))
        · rw [List.drop_eq_getElem_cons hk]
          refine .visit (by simp [hs]) (h1.congr fun x => setB_iff) (h3.congr fun x => ?_)
          dsimp only
          rw [setB_iff, or_assoc]
        · dsimp only
          rw [setB_iff]
          simp only [List.mem_append, List.mem_cons]
          constructor
          · rintro (((h | h) | h) | h) <;> simp [h]
          · rintro (h | h | h | h) <;> simp [h]
  · rw [setB_iff, h.seen]
    simp only [List.map_cons, List.mem_cons]
    constructor
    · rintro ((h | h | h | h) | h) <;> simp [h]
    · rintro (h | h | h | h | h) <;> simp [h]

theorem WInv.done (h : WInv nx S0 a0 S M []) : Run nx S0 [a0] M ∧ ∀ x, S x = true ↔ S0 x ∨ x ∈ M := by
  refine ⟨by simpa using h.fin [] .nil, fun x => ?_⟩
  rw [h.seen]
  simp

/-- The walk's measure. -/
def wmu (n : Nat) (nx : Nat → List Nat) (S : Nat → Bool) (path : List (Nat × Nat)) : Nat :=
  ((List.range n).map fun x => if S x then 0 else (nx x).length + 2).sum + (path.map fun p => (nx p.1).length - p.2 + 1).sum

theorem wmu_finish (n : Nat) : wmu n nx S path < wmu n nx S ((a, k) :: path) := by
  unfold wmu
  simp only [List.map_cons, List.sum_cons]
  omega

theorem wmu_skip {n : Nat} (hk : k < (nx a).length) : wmu n nx S ((a, k + 1) :: path) < wmu n nx S ((a, k) :: path) := by
  unfold wmu
  simp only [List.map_cons, List.sum_cons]
  omega

theorem sum_unset (nx : Nat → List Nat) (n : Nat) {S : Nat → Bool} {x : Nat} (hs : S x = false) : ((List.range n).map fun y => if setB S x y then 0 else (nx y).length + 2).sum + (if x < n then (nx x).length + 2 else 0) = ((List.range n).map fun y => if S y then 0 else (nx y).length + 2).sum := by
  induction n with
  | zero => simp
  | succ n ih =>
    rw [List.range_succ, List.map_append, List.map_append, List.sum_append, List.sum_append]
    simp only [List.map_cons, List.map_nil, List.sum_cons, List.sum_nil, Nat.add_zero] at ih ⊢
    by_cases h1 : x < n
    · have h2 : setB S x n = S n := by unfold setB; rw [if_neg (by omega)]
      rw [if_pos h1] at ih
      rw [h2, if_pos (show x < n + 1 by omega)]
      omega
    · rw [if_neg h1] at ih
      by_cases h2 : x = n
      · subst h2
        have h3 : setB S x x = true := by simp [setB]
        rw [h3, hs, if_pos (show x < x + 1 by omega)]
        simp only [if_true, Bool.false_eq_true, if_false]
        omega
      · have h3 : setB S x n = S n := by unfold setB; rw [if_neg (by omega)]
        rw [h3, if_neg (show ¬ x < n + 1 by omega)]
        omega

theorem wmu_visit {n : Nat} (hk : k < (nx a).length) (hs : S (nx a)[k] = false) (hn : (nx a)[k] < n) : wmu n nx (setB S (nx a)[k]) (((nx a)[k], 0) :: (a, k + 1) :: path) < wmu n nx S ((a, k) :: path) := by
  have h := sum_unset nx n hs
  rw [if_pos hn] at h
  unfold wmu
  simp only [List.map_cons, List.sum_cons]
  omega

end

/-- Those of the list whose place f takes. -/
def pick {α : Type} (f : Nat → Bool) (l : List α) : List α := (l.zipIdx.filter fun p => f p.2).map (·.1)

theorem pick_nil {α : Type} (f : Nat → Bool) : pick f ([] : List α) = [] := rfl
theorem pick_snoc {α : Type} (f : Nat → Bool) (l : List α) (x : α) : pick f (l ++ [x]) = pick f l ++ (if f l.length then [x] else []) := by
  unfold pick
  rw [List.zipIdx_append, List.filter_append, List.map_append]
  congr 1
  by_cases h : f l.length <;> simp [h]
theorem pick_le {α : Type} (f : Nat → Bool) (l : List α) : (pick f l).length ≤ l.length := by
  unfold pick
  rw [List.length_map]
  have := List.length_filter_le (fun p : α × Nat => f p.2) l.zipIdx
  simpa using this
theorem pick_take {α : Type} (f : Nat → Bool) (l : List α) {k : Nat} (hk : k < l.length) : pick f (l.take (k + 1)) = pick f (l.take k) ++ (if f k then [l[k]] else []) := by
  rw [List.take_succ_eq_append_getElem hk, pick_snoc, List.length_take, Nat.min_eq_left (by omega)]
theorem pick_congr {α : Type} {f g : Nat → Bool} {l : List α} (h : ∀ i, i < l.length → f i = g i) : pick f l = pick g l := by
  unfold pick
  congr 1
  refine List.filter_congr fun p hp => ?_
  obtain ⟨_, h2, _⟩ := List.mem_zipIdx hp
  exact h _ (by omega)
theorem mem_pick {α : Type} {f : Nat → Bool} {l : List α} {x : α} : x ∈ pick f l ↔ ∃ i, ∃ h : i < l.length, f i = true ∧ l[i] = x := by
  unfold pick
  simp only [List.mem_map, List.mem_filter, Prod.exists]
  constructor
  · rintro ⟨a, i, ⟨h1, h2⟩, rfl⟩
    obtain ⟨h3, h4, h5⟩ := List.mem_zipIdx h1
    exact ⟨i, by omega, h2, by simpa using h5.symm⟩
  · rintro ⟨i, hi, hf, rfl⟩
    exact ⟨_, i, ⟨List.mem_zipIdx_iff_getElem?.2 (by simp [hi]), hf⟩, rfl⟩

theorem errOf_cases {α : Type} (nodes : List α) (uses : List (α × α)) : errOf nodes uses = 0 ∨ errOf nodes uses = 5 ∨ errOf nodes uses = 6 := by
  unfold errOf
  split
  · split <;> simp
  · simp

open Classical in
/-- Reach's answer. -/
noncomputable def rErr {α : Type} (nodes : List α) (uses : List (α × α)) (x : α) : Int := if errOf nodes uses = 0 then (if x ∈ nodes then 0 else 6) else errOf nodes uses
noncomputable def rOut {α : Type} [BEq α] [LawfulBEq α] (nodes : List α) (uses : List (α × α)) (x : α) : List α := if rErr nodes uses x = 0 then pick (rb (graphL nodes uses) (nodes.idxOf x)) nodes else []

end Go.Proofs.Ytncloielmfplpaa
