/- Plain: cells that hang on each other, and rings; what Join does to them. -/
import Derived.Test.YtodklnfdmcadkaaBase
namespace Go.Proofs.Ytodklnfdmcadkaa
set_option linter.unusedVariables false
set_option linter.unusedSimpArgs false

/-- A cell: up, next, value. -/
abbrev Cel (α : Type) := Nat × Nat × α

def nx {α : Type} (cs : List (Cel α)) (x : Nat) : Nat := (cs[x]?.map (·.2.1)).getD 0

/-- From each of the list to the one behind it, from the last to e. -/
def Goes (g : Nat → Nat) : List Nat → Nat → Prop
  | [], _ => True
  | x :: l, e => g x = l.headD e ∧ Goes g l e

theorem Goes.append {g : Nat → Nat} {l1 l2 : List Nat} {e : Nat} : Goes g (l1 ++ l2) e ↔ Goes g l1 (l2.headD e) ∧ Goes g l2 e := by
  induction l1 with
  | nil => simp [Goes]
  | cons x l ih =>
    simp only [List.cons_append, Goes, ih, and_assoc]
    have : (l ++ l2).headD e = l.headD (l2.headD e) := by cases l <;> rfl
    rw [this]

theorem Goes.congr {g g' : Nat → Nat} {l : List Nat} {e : Nat} (h : Goes g l e) (hg : ∀ x ∈ l, g' x = g x) : Goes g' l e := by
  induction l with
  | nil => trivial
  | cons x l ih => exact ⟨(hg x (by simp)).trans h.1, ih h.2 (fun y hy => hg y (by simp [hy]))⟩

/-- Two rings become one where their heads change what is behind them. -/
theorem Goes.merge {g g' : Nat → Nat} {a b : Nat} {xs ys : List Nat} (ha : Goes g (a :: xs) a) (hb : Goes g (b :: ys) b) (hab : a ≠ b) (hax : a ∉ xs) (hbx : b ∉ xs) (hay : a ∉ ys) (hby : b ∉ ys)
    (ga : g' a = g b) (gb : g' b = g a) (go : ∀ x, x ≠ a → x ≠ b → g' x = g x) : Goes g' (a :: (ys ++ b :: xs)) a := by
  have o : ∀ l : List Nat, a ∉ l → b ∉ l → ∀ x ∈ l, g' x = g x := fun l h1 h2 x hx => go x (fun e => h1 (e ▸ hx)) (fun e => h2 (e ▸ hx))
  refine ⟨?_, Goes.append.2 ⟨?_, ?_, ?_⟩⟩
  · rw [ga, hb.1]
    cases ys <;> rfl
  · exact hb.2.congr (o ys hay hby)
  · rw [gb, ha.1]
  · exact ha.2.congr (o xs hax hbx)

theorem Goes.get {g : Nat → Nat} {l : List Nat} {e : Nat} (h : Goes g l e) {t : Nat} (ht : t < l.length) : g l[t] = (l ++ [e])[t + 1]'(by simp; omega) := by
  induction l generalizing t with
  | nil => simp at ht
  | cons x l ih =>
    cases t with
    | zero =>
      simp only [List.getElem_cons_zero, List.cons_append, List.getElem_cons_succ]
      rw [h.1]
      cases l <;> rfl
    | succ t =>
      simp only [List.getElem_cons_succ, List.cons_append]
      exact ih h.2 (by simpa using ht)

/-- The cells hang on the least of their class; ρ tells it. -/
structure UInv {α : Type} (cs : List (Cel α)) (ρ : Nat → Nat) : Prop where
  le : ∀ j, j < cs.length → ρ j ≤ j
  idem : ∀ j, j < cs.length → ρ (ρ j) = ρ j
  upLe : ∀ j (h : j < cs.length), cs[j].1 ≤ j
  upRep : ∀ j (h : j < cs.length), ρ cs[j].1 = ρ j
  fix : ∀ j (h : j < cs.length), cs[j].1 = j ↔ ρ j = j

/-- For each least one its ring. -/
def URing {α : Type} (cs : List (Cel α)) (ρ : Nat → Nat) : Prop :=
  ∃ tl : Nat → List Nat, ∀ a, a < cs.length → ρ a = a → (a :: tl a).Nodup ∧ (∀ x, x ∈ a :: tl a ↔ x < cs.length ∧ ρ x = a) ∧ Goes (nx cs) (a :: tl a) a

section
variable {α : Type} {cs cs' : List (Cel α)} {ρ : Nat → Nat}

theorem nx_eq {x : Nat} (h : x < cs.length) : nx cs x = cs[x].2.1 := by simp [nx, h]

theorem nx_map (h : cs'.map (·.2) = cs.map (·.2)) : nx cs' = nx cs := by
  funext x
  have h1 := congrArg (fun l : List (Nat × α) => (l[x]?.map (·.1)).getD 0) h
  simpa [nx, List.getElem?_map, Option.map_map, Function.comp_def] using h1

theorem len_map (h : cs'.map (·.2) = cs.map (·.2)) : cs'.length = cs.length := by
  have := congrArg List.length h
  simpa using this

theorem URing.map (h : URing cs ρ) (hm : cs'.map (·.2) = cs.map (·.2)) : URing cs' ρ := by
  obtain ⟨tl, h⟩ := h
  refine ⟨tl, fun a ha hr => ?_⟩
  rw [len_map hm] at ha ⊢
  rw [nx_map hm]
  exact h a ha hr

/-- One cell hung higher. -/
theorem UInv.hang (h : UInv cs ρ) {i : Nat} (hi : i < cs.length) (hne : ρ i ≠ i) : UInv (cs.set i (ρ i, cs[i].2)) ρ := by
  have hle := h.le i hi
  refine ⟨fun j hj => h.le j (by simpa using hj), fun j hj => h.idem j (by simpa using hj), fun j hj => ?_, fun j hj => ?_, fun j hj => ?_⟩
  all_goals
    rw [List.length_set] at hj
    rw [List.getElem_set]
    split
    · rename_i e
      subst e
      first
        | exact hle
        | exact h.idem _ hi
        | exact ⟨fun e => absurd e hne, fun e => absurd e hne⟩
    · first
        | exact h.upLe j hj
        | exact h.upRep j hj
        | exact h.fix j hj

theorem hang_map {i : Nat} (hi : i < cs.length) (u : Nat) : (cs.set i (u, cs[i].2)).map (·.2) = cs.map (·.2) := by
  apply List.ext_getElem (by simp)
  intro j h1 h2
  simp only [List.getElem_map, List.getElem_set]
  split
  · rename_i e; subst e; rfl
  · rfl

/-- Add. -/
theorem UInv.add (h : UInv cs ρ) (x : α) : UInv (cs ++ [(cs.length, cs.length, x)]) (fun j => if j = cs.length then cs.length else ρ j) := by
  have key : ∀ j, j < (cs ++ [(cs.length, cs.length, x)]).length → j = cs.length ∨ j < cs.length := fun j hj => by simp at hj; omega
  refine ⟨fun j hj => ?_, fun j hj => ?_, fun j hj => ?_, fun j hj => ?_, fun j hj => ?_⟩
  all_goals rcases key j hj with rfl | hl
  · simp
  · rw [if_neg (by omega)]; exact h.le j hl
  · simp
  · have := h.le j hl
    rw [if_neg (show ¬ j = cs.length by omega), if_neg (by omega)]; exact h.idem j hl
  · simp
  · rw [List.getElem_append_left hl]; exact h.upLe j hl
  · simp
  · have := h.upLe j hl
    rw [List.getElem_append_left hl, if_neg (show ¬ j = cs.length by omega), if_neg (by omega)]; exact h.upRep j hl
  · simp
  · rw [List.getElem_append_left hl, if_neg (show ¬ j = cs.length by omega)]; exact h.fix j hl

theorem URing.add (h : URing cs ρ) (hi : UInv cs ρ) (x : α) : URing (cs ++ [(cs.length, cs.length, x)]) (fun j => if j = cs.length then cs.length else ρ j) := by
  obtain ⟨tl, h⟩ := h
  refine ⟨fun a => if a = cs.length then [] else tl a, fun a ha hr => ?_⟩
  by_cases e : a = cs.length
  · subst e
    simp only [if_true]
    refine ⟨by simp, fun y => ?_, ?_, trivial⟩
    · simp only [List.mem_singleton, List.length_append, List.length_cons, List.length_nil]
      constructor
      · rintro rfl; simp
      · rintro ⟨h1, h2⟩
        by_cases e : y = cs.length
        · exact e
        · rw [if_neg e] at h2
          have := hi.le y (by omega)
          omega
    · simp [nx]
  · have hl : a < cs.length := by simp at ha; omega
    have hr : ρ a = a := by simpa [e] using hr
    obtain ⟨h1, h2, h3⟩ := h a hl hr
    simp only [if_neg e]
    refine ⟨h1, fun y => ?_, h3.congr (fun y hy => ?_)⟩
    · rw [h2]
      simp only [List.length_append, List.length_cons, List.length_nil]
      constructor
      · rintro ⟨p, q⟩
        exact ⟨by omega, by rw [if_neg (by omega)]; exact q⟩
      · rintro ⟨p, q⟩
        by_cases e : y = cs.length
        · rw [if_pos e] at q; omega
        · rw [if_neg e] at q; exact ⟨by omega, q⟩
    · have := ((h2 y).1 hy).1
      simp [nx, List.getElem?_append_left this]

/-- Join: b's class becomes a's. -/
def joinR (ρ : Nat → Nat) (a b : Nat) : Nat → Nat := fun x => if ρ x = b then a else ρ x

/-- What Join does to the cells: b hangs on a; a and b change what is behind them. -/
def joinC (cs : List (Cel α)) (a b : Nat) (ha : a < cs.length) (hb : b < cs.length) : List (Cel α) :=
  (cs.set b (a, cs[a].2.1, cs[b].2.2)).set a (cs[a].1, cs[b].2.1, cs[a].2.2)

theorem joinC_length {a b : Nat} {ha : a < cs.length} {hb : b < cs.length} : (joinC cs a b ha hb).length = cs.length := by simp [joinC]

theorem joinC_get {a b : Nat} {ha : a < cs.length} {hb : b < cs.length} (hab : a ≠ b) {j : Nat} (hj : j < (joinC cs a b ha hb).length) :
    (joinC cs a b ha hb)[j] = if j = a then (cs[a].1, cs[b].2.1, cs[a].2.2) else if j = b then (a, cs[a].2.1, cs[b].2.2) else cs[j]'(by rw [joinC_length] at hj; exact hj) := by
  simp only [joinC, List.getElem_set]
  by_cases e : j = a
  · subst e; simp
  · by_cases e2 : j = b
    · subst e2; simp [Ne.symm e, e]
    · simp [Ne.symm e, Ne.symm e2, e, e2]

theorem joinR_root {a b : Nat} (ha : ρ a = a) (hab : a ≠ b) : joinR ρ a b a = a := by simp [joinR, ha]

theorem UInv.join (h : UInv cs ρ) {a b : Nat} (ha : a < cs.length) (hb : b < cs.length) (ra : ρ a = a) (rb : ρ b = b) (hlt : a < b) : UInv (joinC cs a b ha hb) (joinR ρ a b) := by
  have hab : a ≠ b := by omega
  have jr := joinR_root (b := b) ra hab
  have key : ∀ j (hj : j < cs.length), ((joinC cs a b ha hb)[j]'(by rw [joinC_length]; exact hj)).1 = if j = b then a else cs[j].1 := fun j hj => by
    rw [joinC_get hab]
    by_cases e : j = a
    · subst e; simp [hab]
    · by_cases e2 : j = b
      · subst e2; simp [Ne.symm hab]
      · simp [e, e2]
  refine ⟨fun j hj => ?_, fun j hj => ?_, fun j hj => ?_, fun j hj => ?_, fun j hj => ?_⟩
  all_goals rw [joinC_length] at hj
  · have := h.le j hj
    unfold joinR; split <;> omega
  · unfold joinR
    by_cases e : ρ j = b
    · simp only [e, if_true, ra, if_neg hab]
    · simp only [if_neg e, h.idem j hj]
  · rw [key j hj]
    have := h.upLe j hj
    split <;> omega
  · rw [key j hj]
    by_cases e : j = b
    · subst e
      rw [if_pos rfl, jr]
      simp [joinR, rb]
    · rw [if_neg e]
      unfold joinR
      rw [h.upRep j hj]
  · rw [key j hj]
    by_cases e : j = b
    · subst e
      rw [if_pos rfl]
      simp only [joinR, rb, if_true]
    · rw [if_neg e, h.fix j hj]
      unfold joinR
      by_cases e2 : ρ j = b
      · rw [if_pos e2]
        constructor
        · intro h1; omega
        · intro h1
          rw [← h1] at e2
          omega
      · rw [if_neg e2]

theorem URing.join (h : URing cs ρ) (hi : UInv cs ρ) {a b : Nat} (ha : a < cs.length) (hb : b < cs.length) (ra : ρ a = a) (rb : ρ b = b) (hlt : a < b) : URing (joinC cs a b ha hb) (joinR ρ a b) := by
  have hab : a ≠ b := by omega
  obtain ⟨tl, h⟩ := h
  obtain ⟨na, ma, ga⟩ := h a ha ra
  obtain ⟨nb, mb, gb⟩ := h b hb rb
  have g1 : nx (joinC cs a b ha hb) a = nx cs b := by
    rw [nx_eq (by rw [joinC_length]; exact ha), nx_eq hb, joinC_get hab]; simp
  have g2 : nx (joinC cs a b ha hb) b = nx cs a := by
    rw [nx_eq (by rw [joinC_length]; exact hb), nx_eq ha, joinC_get hab]; simp [Ne.symm hab]
  have g3 : ∀ x, x ≠ a → x ≠ b → nx (joinC cs a b ha hb) x = nx cs x := fun x e1 e2 => by
    by_cases hx : x < cs.length
    · rw [nx_eq (by rw [joinC_length]; exact hx), nx_eq hx, joinC_get hab]; simp [e1, e2]
    · have hx' : ¬ x < (joinC cs a b ha hb).length := by rw [joinC_length]; exact hx
      simp [nx, List.getElem?_eq_none (Nat.le_of_not_lt hx), List.getElem?_eq_none (Nat.le_of_not_lt hx')]
  have dis : ∀ x, x ∈ a :: tl a → x ∉ b :: tl b := fun x h1 h2 => by
    have e1 := ((ma x).1 h1).2
    have e2 := ((mb x).1 h2).2
    omega
  refine ⟨fun c => if c = a then tl b ++ b :: tl a else tl c, fun c hc hr => ?_⟩
  rw [joinC_length] at hc
  by_cases e : c = a
  · subst e
    simp only [if_true]
    refine ⟨?_, fun x => ?_, Goes.merge ga gb hab (List.nodup_cons.1 na).1 (fun hm => dis b (List.mem_cons_of_mem _ hm) (by simp)) (fun hm => dis c (by simp) (List.mem_cons_of_mem _ hm)) (List.nodup_cons.1 nb).1 g1 g2 g3⟩
    · have hp : List.Perm (c :: (tl b ++ b :: tl c)) ((c :: tl c) ++ (b :: tl b)) := by
        rw [List.cons_append, List.perm_cons]
        exact List.perm_append_comm.trans (by simpa using (List.perm_middle (a := b) (l₁ := tl c) (l₂ := tl b)).symm)
      rw [hp.nodup_iff, List.nodup_append]
      exact ⟨na, nb, fun x hx y hy e => by subst e; exact dis x hx hy⟩
    · have hm : x ∈ c :: (tl b ++ b :: tl c) ↔ x ∈ c :: tl c ∨ x ∈ b :: tl b := by
        simp only [List.mem_cons, List.mem_append]
        constructor
        · rintro (h | h | h | h) <;> simp [h]
        · rintro ((h | h) | (h | h)) <;> simp [h]
      rw [hm, ma, mb, joinC_length]
      unfold joinR
      constructor
      · rintro (⟨p, q⟩ | ⟨p, q⟩)
        · exact ⟨p, by rw [if_neg (by omega)]; exact q⟩
        · exact ⟨p, by rw [if_pos q]⟩
      · rintro ⟨p, q⟩
        by_cases e : ρ x = b
        · exact .inr ⟨p, e⟩
        · rw [if_neg e] at q; exact .inl ⟨p, q⟩
  · have rc : ρ c = c ∧ c ≠ b := by
      unfold joinR at hr
      split at hr
      · exact absurd hr.symm e
      · rename_i h1
        exact ⟨hr, fun e2 => h1 (by rw [e2]; exact rb)⟩
    obtain ⟨h1, h2, h3⟩ := h c hc rc.1
    simp only [if_neg e]
    refine ⟨h1, fun x => ?_, h3.congr (fun x hx => ?_)⟩
    · rw [h2, joinC_length]
      unfold joinR
      constructor
      · rintro ⟨p, q⟩
        exact ⟨p, by rw [if_neg (by rw [q]; exact rc.2)]; exact q⟩
      · rintro ⟨p, q⟩
        by_cases e2 : ρ x = b
        · rw [if_pos e2] at q; exact absurd q.symm e
        · rw [if_neg e2] at q; exact ⟨p, q⟩
    · have hx2 := ((h2 x).1 hx).2
      exact g3 x (fun e2 => by subst e2; omega) (fun e2 => by subst e2; exact rc.2 (by omega))

end

/-- How many least ones there are. -/
def roots (n : Nat) (ρ : Nat → Nat) : Nat := ((List.range n).filter fun j => decide (ρ j = j)).length

theorem roots_add (n : Nat) (ρ : Nat → Nat) : roots (n + 1) (fun j => if j = n then n else ρ j) = roots n ρ + 1 := by
  unfold roots
  rw [List.range_succ, List.filter_append]
  have : (List.range n).filter (fun j => decide ((if j = n then n else ρ j) = j)) = (List.range n).filter (fun j => decide (ρ j = j)) := List.filter_congr (fun j hj => by
    have := List.mem_range.1 hj
    rw [if_neg (by omega)])
  rw [this]
  simp

theorem roots_join {n : Nat} {ρ : Nat → Nat} {a b : Nat} (hb : b < n) (ra : ρ a = a) (rb : ρ b = b) (hab : a ≠ b) : roots n (joinR ρ a b) + 1 = roots n ρ := by
  unfold roots
  have h1 : (List.range n).filter (fun j => decide (joinR ρ a b j = j)) = ((List.range n).filter (fun j => decide (ρ j = j))).erase b := by
    rw [List.Nodup.erase_eq_filter (List.nodup_range.filter _), List.filter_filter]
    refine List.filter_congr (fun j hj => ?_)
    unfold joinR
    by_cases e : ρ j = b
    · rw [if_pos e]
      by_cases e2 : j = b
      · subst e2; simp [hab]
      · have : ¬ a = j := fun e3 => by rw [← e3, ra] at e; exact hab e
        have : ¬ ρ j = j := fun e3 => e2 (by omega)
        have : ¬ b = j := fun e3 => e2 e3.symm
        simp [*]
    · rw [if_neg e]
      by_cases e2 : j = b
      · subst e2; exact absurd rb e
      · have e3 : ¬ b = j := fun h => e2 h.symm
        simp [e2, e3]
  have hm : b ∈ (List.range n).filter (fun j => decide (ρ j = j)) := List.mem_filter.2 ⟨List.mem_range.2 hb, by simpa using rb⟩
  have hpos : 0 < ((List.range n).filter (fun j => decide (ρ j = j))).length := List.length_pos_of_mem hm
  rw [h1, List.length_erase_of_mem hm]
  omega

theorem roots_le (n : Nat) (ρ : Nat → Nat) : roots n ρ ≤ n := by
  have := List.length_filter_le (fun j => decide (ρ j = j)) (List.range n)
  simpa [roots] using this

end Go.Proofs.Ytodklnfdmcadkaa
