/- Plain: the groups part the things; none uses one behind it. -/
import Derived.Test.YtncloielmfplpaaRch5
namespace Go.Proofs.Ytncloielmfplpaa
open Go.RowKit
set_option linter.unusedVariables false
set_option linter.unusedSimpArgs false

section
variable {L : List (List Nat)} {n : Nat}

open Classical in
theorem led_all (hL : ∀ x z, z ∈ nxt L x → z < n) {O : List Nat} (h : Led L n O) : ∃ O', Led L n O' ∧ AllTold L n O' := by
  obtain ⟨m, hm⟩ : ∃ m, m = ((List.range n).filter (fun x => decide (¬ Told L O x))).length := ⟨_, rfl⟩
  induction m using Nat.strongRecOn generalizing O with
  | _ m ih =>
    by_cases ha : AllTold L n O
    · exact ⟨O, h, ha⟩
    · obtain ⟨x, hx, hu⟩ : ∃ x, x < n ∧ ¬ Told L O x := Classical.byContradiction fun hc => ha fun x hx => Classical.byContradiction fun hu => hc ⟨x, hx, hu⟩
      obtain ⟨k, hk⟩ := exists_next hL hx hu
      refine ih _ ?_ (h.snoc hk) rfl
      rw [hm]
      refine filter_lt (z := k) (fun y hy => ?_) (List.mem_range.2 hk.1) ?_ ?_
      · simp only [decide_eq_true_eq] at hy ⊢
        exact fun ht => hy ht.left
      · simpa using hk.2.1.1
      · simp only [decide_eq_false_iff_not, Classical.not_not]
        exact told_snoc.2 (.inr (.refl _))

theorem leds_ok (hL : ∀ x z, z ∈ nxt L x → z < n) : Led L n (leds L n) ∧ AllTold L n (leds L n) := by
  obtain ⟨O, h1, h2⟩ := led_all hL Led.nil
  rw [leds_eq h1 h2]
  exact ⟨h1, h2⟩

theorem Led.at {O : List Nat} (h : Led L n O) : ∀ i (hi : i < O.length), Next L n (O.take i) O[i] := by
  induction h with
  | nil => intro i hi; simp at hi
  | @snoc O k h1 h2 ih =>
    intro i hi
    rcases Nat.lt_or_ge i O.length with h3 | h3
    · rw [List.take_append_of_le_length (Nat.le_of_lt h3), List.getElem_append_left h3]
      exact ih i h3
    · obtain rfl : i = O.length := by simp at hi; omega
      simp only [List.take_left, List.getElem_append_right (Nat.le_refl _), Nat.sub_self, List.getElem_cons_zero]
      exact h2

/-- No two of one group. -/
theorem Led.sep {O : List Nat} (h : Led L n O) {i j : Nat} (hi : i < O.length) (hj : j < O.length) (hs : Same (nxt L) O[i] O[j]) : i = j := by
  have key : ∀ i j (hi : i < O.length) (hj : j < O.length), i < j → ¬ Same (nxt L) O[i] O[j] := fun i j hi hj hij hs =>
    (h.at j hj).2.1.1 ⟨O[i], List.mem_iff_getElem.2 ⟨i, by simp; omega, by simp⟩, hs⟩
  rcases Nat.lt_trichotomy i j with h1 | h1 | h1
  · exact absurd hs (key i j hi hj h1)
  · exact h1
  · exact absurd hs.symm (key j i hj hi h1)

theorem count_one {α : Type} {p : α → Bool} : ∀ {l : List α}, (∃ x ∈ l, p x = true) → (∀ i j (hi : i < l.length) (hj : j < l.length), p l[i] = true → p l[j] = true → i = j) → l.countP p = 1
  | [], h, _ => by obtain ⟨x, hx, _⟩ := h; cases hx
  | a :: l, h, hu => by
    rw [List.countP_cons]
    cases hp : p a with
    | true =>
      have h0 : l.countP p = 0 := List.countP_eq_zero.2 fun y hy hpy => by
        obtain ⟨i, hi, rfl⟩ := List.mem_iff_getElem.1 hy
        have := hu 0 (i + 1) (by simp) (by simp; omega) hp hpy
        omega
      rw [h0]
      simp
    | false =>
      have : l.countP p = 1 := count_one (by
        obtain ⟨x, hx, hpx⟩ := h
        rcases List.mem_cons.1 hx with rfl | hx
        · rw [hp] at hpx; cases hpx
        · exact ⟨x, hx, hpx⟩) (fun i j hi hj h1 h2 => by
          have := hu (i + 1) (j + 1) (by simp; omega) (by simp; omega) h1 h2
          omega)
      rw [this]
      simp

theorem sum_count {α : Type} {p : α → Nat → Bool} {l : List α} : ∀ {n : Nat}, (∀ x, x < n → l.countP (fun o => p o x) = 1) → (l.map fun o => ((List.range n).filter (p o)).length).sum = n
  | 0, _ => by
    induction l with
    | nil => rfl
    | cons a l ih => simpa using ih (fun x h => by omega)
  | n + 1, h => by
    have ih := sum_count (n := n) (p := p) (l := l) (fun x hx => h x (by omega))
    have hn := h n (by omega)
    have key : ∀ l : List α, (l.map fun o => ((List.range (n + 1)).filter (p o)).length).sum = (l.map fun o => ((List.range n).filter (p o)).length).sum + l.countP (fun o => p o n) := by
      intro l
      induction l with
      | nil => rfl
      | cons a l ih2 =>
        rw [List.map_cons, List.sum_cons, ih2, List.map_cons, List.sum_cons, List.countP_cons, List.range_succ, List.filter_append, List.length_append]
        cases hp : p a n <;> simp [hp] <;> omega
    rw [key, ih, hn]

end

theorem pick_length {α : Type} (f : Nat → Bool) (l : List α) : (pick f l).length = ((List.range l.length).filter f).length := by
  have key : ∀ k, k ≤ l.length → (pick f (l.take k)).length = ((List.range k).filter f).length := by
    intro k
    induction k with
    | zero => intro _; simp [pick]
    | succ k ih =>
      intro hk
      rw [pick_take f l (by omega), List.length_append, ih (by omega), List.range_succ, List.filter_append, List.length_append]
      cases hf : f k <;> simp [hf]
  have := key l.length (Nat.le_refl _)
  rwa [List.take_length] at this

theorem numI_le {Ys : List (List Int)} {k : Int} {t : Nat} (ht : t < Ys.length) (h : k ∈ Ys[t]) : ∃ i : Nat, numI Ys k = i ∧ i ≤ t := by
  obtain ⟨j, h1, h2, h3⟩ := least (P := fun i => ∃ hi : i < Ys.length, k ∈ Ys[i]) (k := t) ⟨ht, h⟩
  obtain ⟨hj, h2⟩ := h2
  exact ⟨j, numI_hit hj h2 (fun i hi hij hk => h3 i hij ⟨hi, hk⟩), h1⟩

/-- What the groups of things must be. -/
structure PartsOk (nodes : List Int) (uses : List (Int × Int)) (G : List (List Int)) : Prop where
  ne : ∀ i (h : i < G.length), 0 < G[i].length
  sum : (G.map List.length).sum = nodes.length
  all : ∀ y ∈ nodes, ∃ i : Nat, numI G y = i
  down : ∀ u ∈ uses, numI G u.2 ≤ numI G u.1
  reach : ∀ i (h : i < G.length), ∀ y ∈ G[i], ∀ z ∈ G[i], rErr nodes uses y = 0 ∧ z ∈ rOut nodes uses y

theorem errOf_ok {nodes : List Int} {uses : List (Int × Int)} (h : errOf nodes uses = 0) : nodes.Nodup ∧ ∀ u ∈ uses, u.1 ∈ nodes ∧ u.2 ∈ nodes := by
  unfold errOf at h
  split at h
  · split at h
    · exact ⟨by assumption, by assumption⟩
    · cases h
  · cases h

theorem parts_ok {nodes : List Int} {uses : List (Int × Int)} (h : errOf nodes uses = 0) : PartsOk nodes uses (gOut nodes uses) := by
  obtain ⟨hnd, hall⟩ := errOf_ok h
  have hL : ∀ x z, z ∈ nxt (graphL nodes uses) x → z < nodes.length := fun x z hz => graphL_lt hall hz
  obtain ⟨hled, htold⟩ := leds_ok hL
  have hgo : gOut nodes uses = (leds (graphL nodes uses) nodes.length).map fun o => pick (sm (graphL nodes uses) o) nodes := by
    unfold gOut
    rw [if_pos h]
  rw [hgo]
  have hks := hled.lt
  obtain ⟨ks, hke⟩ : ∃ ks, ks = leds (graphL nodes uses) nodes.length := ⟨_, rfl⟩
  rw [← hke] at hled htold hks ⊢
  have hlen : (ks.map fun o => pick (sm (graphL nodes uses) o) nodes).length = ks.length := List.length_map _
  have hmem : ∀ i (hi : i < ks.length) y, y ∈ pick (sm (graphL nodes uses) ks[i]) nodes ↔ ∃ x, ∃ hx : x < nodes.length, Same (nxt (graphL nodes uses)) ks[i] x ∧ nodes[x] = y := by
    intro i hi y
    rw [mem_pick]
    constructor
    · rintro ⟨x, hx, h1, h2⟩
      exact ⟨x, hx, sm_iff.1 h1, h2⟩
    · rintro ⟨x, hx, h1, h2⟩
      exact ⟨x, hx, sm_iff.2 h1, h2⟩
  have hfind : ∀ x (hx : x < nodes.length), ∃ i, ∃ hi : i < ks.length, Same (nxt (graphL nodes uses)) ks[i] x := by
    intro x hx
    obtain ⟨o, ho, hs⟩ := htold x hx
    obtain ⟨i, hi, rfl⟩ := List.mem_iff_getElem.1 ho
    exact ⟨i, hi, hs⟩
  refine ⟨fun i hi => ?_, ?_, fun y hy => ?_, fun u hu => ?_, fun i hi y hy z hz => ?_⟩
  · have hi' : i < ks.length := by rw [← hlen]; exact hi
    have hk := hks _ (List.getElem_mem hi')
    simp only [List.getElem_map]
    exact List.length_pos_of_mem ((hmem i hi' _).2 ⟨ks[i], hk, .refl _, rfl⟩)
  · rw [List.map_map]
    have e : (List.length ∘ fun o => pick (sm (graphL nodes uses) o) nodes) = fun o => ((List.range nodes.length).filter (sm (graphL nodes uses) o)).length := by
      funext o
      exact pick_length _ _
    rw [e]
    refine sum_count (p := fun o x => sm (graphL nodes uses) o x) fun x hx => count_one ?_ ?_
    · obtain ⟨i, hi, hs⟩ := hfind x hx
      exact ⟨ks[i], List.getElem_mem hi, sm_iff.2 hs⟩
    · intro i j hi hj h1 h2
      exact hled.sep hi hj ((sm_iff.1 h1).trans (sm_iff.1 h2).symm)
  · obtain ⟨x, hx, rfl⟩ := List.mem_iff_getElem.1 hy
    obtain ⟨i, hi, hs⟩ := hfind x hx
    obtain ⟨j, h1, _⟩ := numI_le (Ys := ks.map fun o => pick (sm (graphL nodes uses) o) nodes) (t := i) (by rw [hlen]; exact hi) (k := nodes[x]) (by
      simp only [List.getElem_map]
      exact (hmem i hi _).2 ⟨x, hx, hs, rfl⟩)
    exact ⟨j, h1⟩
  · obtain ⟨hu1, hu2⟩ := hall u hu
    have ha := List.idxOf_lt_length_of_mem hu1
    have hb := List.idxOf_lt_length_of_mem hu2
    have hab : Reach (nxt (graphL nodes uses)) (nodes.idxOf u.1) (nodes.idxOf u.2) := .one (mem_nxt_graph.2 ⟨ha, u, hu, rfl, rfl⟩)
    obtain ⟨i1, hi1, hs1⟩ := hfind _ ha
    -- the group of the first one
    have hnum : ∃ i : Nat, ∃ hi : i < ks.length, numI (ks.map fun o => pick (sm (graphL nodes uses) o) nodes) u.1 = i ∧ Same (nxt (graphL nodes uses)) ks[i] (nodes.idxOf u.1) := by
      obtain ⟨j, h1, h2, h3⟩ := least (P := fun i => ∃ hi : i < ks.length, u.1 ∈ pick (sm (graphL nodes uses) ks[i]) nodes) (k := i1) ⟨hi1, (hmem i1 hi1 _).2 ⟨_, ha, hs1, getElem_idxOf hu1⟩⟩
      obtain ⟨hj, h2⟩ := h2
      refine ⟨j, hj, numI_hit (by rw [hlen]; exact hj) (by simpa only [List.getElem_map] using h2) (fun t ht htj hk => h3 t htj ⟨by rw [← hlen]; exact ht, by simpa only [List.getElem_map] using hk⟩), ?_⟩
      obtain ⟨x, hx, hs, he⟩ := (hmem j hj _).1 h2
      have : nodes.idxOf u.1 = x := by rw [← he]; exact hnd.idxOf_getElem x hx
      rw [this]
      exact hs
    obtain ⟨i, hi, e1, hs⟩ := hnum
    have hready := (hled.at i hi).2.1.2 (nodes.idxOf u.2) (hs.1.trans hab)
    have hle : ∃ t, ∃ ht : t < ks.length, t ≤ i ∧ Same (nxt (graphL nodes uses)) ks[t] (nodes.idxOf u.2) := by
      rcases hready with h1 | ⟨o, ho, h1⟩
      · exact ⟨i, hi, Nat.le_refl _, h1⟩
      · obtain ⟨t, ht, rfl⟩ := List.mem_iff_getElem.1 ho
        simp only [List.length_take] at ht
        exact ⟨t, by omega, by omega, by simpa using h1⟩
    obtain ⟨t, ht, hti, hst⟩ := hle
    obtain ⟨j, e2, hj⟩ := numI_le (Ys := ks.map fun o => pick (sm (graphL nodes uses) o) nodes) (t := t) (by rw [hlen]; exact ht) (k := u.2) (by
      simp only [List.getElem_map]
      exact (hmem t ht _).2 ⟨_, hb, hst, getElem_idxOf hu2⟩)
    rw [e1, e2]
    omega
  · have hi' : i < ks.length := by rw [← hlen]; exact hi
    simp only [List.getElem_map] at hy hz
    obtain ⟨x, hx, hs, rfl⟩ := (hmem i hi' _).1 hy
    obtain ⟨x', hx', hs', rfl⟩ := (hmem i hi' _).1 hz
    have h0 : rErr nodes uses nodes[x] = 0 := by
      unfold rErr
      rw [if_pos h, if_pos (List.getElem_mem hx)]
    refine ⟨h0, (mem_rOut h0).2 ⟨List.getElem_mem hx', ?_⟩⟩
    rw [hnd.idxOf_getElem x hx, hnd.idxOf_getElem x' hx']
    exact hs.2.trans hs'.1

end Go.Proofs.Ytncloielmfplpaa
