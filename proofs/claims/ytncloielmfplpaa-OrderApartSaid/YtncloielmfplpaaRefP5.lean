/- Plain: how the reference of layer 5 finds the groups. -/
import Derived.Test.YtncloielmfplpaaParts5
namespace Go.Proofs.Ytncloielmfplpaa
set_option linter.unusedVariables false
set_option linter.unusedSimpArgs false

/-- The first thing of i's group. -/
noncomputable def fo (L : List (List Nat)) (i : Nat) : Nat := (List.range (i + 1)).findIdx (sm L i)

section
variable {L : List (List Nat)} {n : Nat}

theorem fo_spec (L : List (List Nat)) (i : Nat) : Same (nxt L) i (fo L i) ∧ fo L i ≤ i ∧ ∀ j, j < fo L i → ¬ Same (nxt L) i j := by
  have hx : ∃ x ∈ List.range (i + 1), sm L i x = true := ⟨i, by simp, sm_iff.2 (.refl _)⟩
  have hlt : fo L i < (List.range (i + 1)).length := List.findIdx_lt_length_of_exists hx
  have h1 : sm L i ((List.range (i + 1))[fo L i]'hlt) = true := List.findIdx_getElem (w := hlt)
  simp only [List.getElem_range] at h1
  have hle : fo L i ≤ i := by simp at hlt; omega
  refine ⟨sm_iff.1 h1, hle, fun j hj hs => ?_⟩
  have h2 : ¬ sm L i ((List.range (i + 1))[j]'(Nat.lt_trans hj hlt)) = true := by simpa using List.not_of_lt_findIdx (p := sm L i) (xs := List.range (i + 1)) (i := j) hj
  simp only [List.getElem_range] at h2
  exact h2 (sm_iff.2 hs)

theorem fo_eq {i j : Nat} (h : Same (nxt L) i j) : fo L i = fo L j := by
  obtain ⟨a1, a2, a3⟩ := fo_spec L i
  obtain ⟨b1, b2, b3⟩ := fo_spec L j
  rcases Nat.lt_trichotomy (fo L i) (fo L j) with h1 | h1 | h1
  · exact absurd (h.symm.trans a1) (b3 _ h1)
  · exact h1
  · exact absurd (h.trans b1) (a3 _ h1)

theorem fo_fo (L : List (List Nat)) (i : Nat) : fo L (fo L i) = fo L i := (fo_eq (fo_spec L i).1).symm

theorem fo_iff {i j : Nat} : fo L i = fo L j ↔ Same (nxt L) i j :=
  ⟨fun h => (fo_spec L i).1.trans (by rw [h]; exact (fo_spec L j).1.symm), fo_eq⟩

/-- The first one, where j is first of its group: is x of its group? -/
theorem fo_first {k x : Nat} (hk : fo L k = k) : fo L x = k ↔ Same (nxt L) k x := by
  rw [← fo_iff (i := k), hk]
  exact eq_comm

/-- The last step of the search down: cur is the least that was met above q. -/
theorem fo_of {i cur : Nat} (h1 : Same (nxt L) i cur) (h2 : cur ≤ i) (h3 : ∀ t, t < cur → ¬ Same (nxt L) i t) : cur = fo L i := by
  obtain ⟨a1, a2, a3⟩ := fo_spec L i
  rcases Nat.lt_trichotomy (fo L i) cur with h | h | h
  · exact absurd a1 (h3 _ h)
  · exact h.symm
  · exact absurd h1 (a3 _ h)

/-- Does i wait for the group whose first is j? -/
noncomputable def wp (L : List (List Nat)) (i j : Nat) : Bool := (fo L j == j) && rb L i j && (fo L i != j)

theorem wp_iff {i j : Nat} : wp L i j = true ↔ fo L j = j ∧ Reach (nxt L) i j ∧ ¬ Same (nxt L) i j := by
  unfold wp
  simp only [Bool.and_eq_true, beq_iff_eq, bne_iff_ne, ne_eq, rb_iff]
  constructor
  · rintro ⟨⟨h1, h2⟩, h3⟩
    exact ⟨h1, h2, fun h => h3 ((fo_eq h).trans h1)⟩
  · rintro ⟨h1, h2, h3⟩
    exact ⟨⟨h1, h2⟩, fun h => h3 (fo_iff.1 (h.trans h1.symm))⟩

/-- How many groups that are not told i waits for. -/
noncomputable def wc (L : List (List Nat)) (n : Nat) (S : Nat → Bool) (i : Nat) : Nat := ((List.range n).filter fun j => wp L i j && !S j).length

theorem wc_zero {S : Nat → Bool} {i : Nat} (h : wc L n S i = 0) {j : Nat} (hj : j < n) (hw : wp L i j = true) : S j = true := by
  have h1 := List.eq_nil_of_length_eq_zero h
  cases hS : S j with
  | true => rfl
  | false =>
    have : j ∈ (List.range n).filter fun j => wp L i j && !S j := List.mem_filter.2 ⟨List.mem_range.2 hj, by simp [hw, hS]⟩
    rw [h1] at this
    cases this

theorem ready_wc {O : List Nat} {S : Nat → Bool} (hled : Led L n O) (hS : ∀ x, x < n → (S x = true ↔ Told L O x)) (hL : ∀ x z, z ∈ nxt L x → z < n) {k : Nat} (hk : k < n) : Ready L O k ↔ S k = false ∧ wc L n S k = 0 := by
  constructor
  · rintro ⟨h1, h2⟩
    refine ⟨?_, ?_⟩
    · cases h : S k with
      | false => rfl
      | true => exact absurd ((hS k hk).1 h) h1
    · unfold wc
      rw [List.length_eq_zero_iff, List.filter_eq_nil_iff]
      intro j hj
      have hj' := List.mem_range.1 hj
      simp only [Bool.and_eq_true, Bool.not_eq_true', not_and, Bool.not_eq_false]
      intro hw
      obtain ⟨_, w2, w3⟩ := wp_iff.1 hw
      rcases h2 j w2 with h3 | h3
      · exact absurd h3 w3
      · exact (hS j hj').2 h3
  · rintro ⟨h1, h2⟩
    refine ⟨fun h => (by rw [(hS k hk).2 h] at h1; cases h1), fun x hx => ?_⟩
    have hxn : x < n := Reach.lt hL hk hx
    by_cases hs : Same (nxt L) k x
    · exact .inl hs
    · obtain ⟨a1, a2, a3⟩ := fo_spec L x
      have hw : wp L k (fo L x) = true := wp_iff.2 ⟨fo_fo L x, hx.trans a1.1, fun h => hs (h.trans a1.symm)⟩
      have := (hS (fo L x) (by omega)).1 (wc_zero h2 (by omega) hw)
      obtain ⟨o, ho, hs2⟩ := this
      exact .inr ⟨o, ho, hs2.trans a1.symm⟩

/-- The least that is ready is the first of its group. -/
theorem next_first {O : List Nat} {k : Nat} (h : Next L n O k) : fo L k = k := by
  obtain ⟨a1, a2, a3⟩ := fo_spec L k
  rcases Nat.lt_or_ge (fo L k) k with h1 | h1
  · refine absurd ?_ (h.2.2 _ h1)
    refine ⟨fun ⟨o, ho, hs⟩ => h.2.1.1 ⟨o, ho, hs.trans a1.symm⟩, fun x hx => ?_⟩
    rcases h.2.1.2 x (a1.1.trans hx) with h2 | h2
    · exact .inl (a1.symm.trans h2)
    · exact .inr h2
  · omega

/-- The marks, where k's group is told as far as j. -/
noncomputable def memJ (L : List (List Nat)) (S : Nat → Bool) (k j : Nat) : Nat → Bool := fun x => S x || (decide (x < j) && fo L x == k)
/-- The counts, where k's group is told as far as j. -/
noncomputable def wvJ (L : List (List Nat)) (wv : Nat → Nat) (k j : Nat) : Nat → Nat := fun x => if x < j ∧ fo L x ≠ k ∧ rb L x k = true then wv x - 1 else wv x

theorem memJ_zero (L : List (List Nat)) (S : Nat → Bool) (k : Nat) : memJ L S k 0 = S := by
  funext x
  simp [memJ]
theorem wvJ_zero (L : List (List Nat)) (wv : Nat → Nat) (k : Nat) : wvJ L wv k 0 = wv := by
  funext x
  simp [wvJ]
theorem memJ_in {S : Nat → Bool} {k j : Nat} (h : fo L j = k) : memJ L S k (j + 1) = setB (memJ L S k j) j := by
  funext x
  unfold memJ setB
  by_cases e : x = j
  · subst e
    simp [h]
  · have : decide (x < j + 1) = decide (x < j) := by
      rw [decide_eq_decide]
      omega
    rw [if_neg e, this]
theorem memJ_out {S : Nat → Bool} {k j : Nat} (h : fo L j ≠ k) : memJ L S k (j + 1) = memJ L S k j := by
  funext x
  unfold memJ
  by_cases e : x = j
  · subst e
    have : (fo L x == k) = false := by simpa using h
    rw [this]
    simp
  · have : decide (x < j + 1) = decide (x < j) := by
      rw [decide_eq_decide]
      omega
    rw [this]
theorem wvJ_same {wv : Nat → Nat} {k j : Nat} (h : fo L j = k ∨ rb L j k = false) : wvJ L wv k (j + 1) = wvJ L wv k j := by
  funext x
  unfold wvJ
  by_cases e : x = j
  · subst e
    have h1 : ¬ (x < x + 1 ∧ fo L x ≠ k ∧ rb L x k = true) := by
      rintro ⟨_, h2, h3⟩
      rcases h with h | h
      · exact h2 h
      · rw [h] at h3; cases h3
    rw [if_neg h1, if_neg (by omega)]
  · have : (x < j + 1) ↔ (x < j) := by omega
    simp only [this]
theorem wvJ_less {wv : Nat → Nat} {k j : Nat} (h1 : fo L j ≠ k) (h2 : rb L j k = true) : wvJ L wv k (j + 1) = fun x => if x = j then wv j - 1 else wvJ L wv k j x := by
  funext x
  unfold wvJ
  by_cases e : x = j
  · subst e
    simp [h1, h2]
  · have : (x < j + 1) ↔ (x < j) := by omega
    simp only [if_neg e, this]
theorem wvJ_at (L : List (List Nat)) (wv : Nat → Nat) (k j : Nat) : wvJ L wv k j j = wv j := by
  unfold wvJ
  rw [if_neg (by omega)]
theorem memJ_at (L : List (List Nat)) (S : Nat → Bool) (k j : Nat) : memJ L S k j j = S j := by
  unfold memJ
  simp

/-- The reference in the midst of the telling. -/
structure RSt (L : List (List Nat)) (n : Nat) (O : List Nat) (S : Nat → Bool) (wv : Nat → Nat) : Prop where
  led : Led L n O
  told : ∀ x, x < n → (S x = true ↔ Told L O x)
  wts : ∀ x, x < n → S x = false → wv x = wc L n S x

theorem RSt.start (L : List (List Nat)) (n : Nat) : RSt L n [] (fun _ => false) (fun x => wc L n (fun _ => false) x) :=
  ⟨.nil, fun x _ => by simp [Told], fun x _ _ => rfl⟩

/-- What is not told of k's group. -/
theorem RSt.fresh {O : List Nat} {S : Nat → Bool} {wv : Nat → Nat} (h : RSt L n O S wv) {k : Nat} (hk : Next L n O k) {j : Nat} (hj : j < n) (hf : fo L j = k) : S j = false := by
  cases hS : S j with
  | false => rfl
  | true =>
    obtain ⟨o, ho, hs⟩ := (h.told j hj).1 hS
    exact absurd ⟨o, ho, hs.trans ((fo_first (next_first hk)).1 hf).symm⟩ hk.2.1.1

/-- What leads to k is not told, and waits for it. -/
theorem RSt.pos {O : List Nat} {S : Nat → Bool} {wv : Nat → Nat} (h : RSt L n O S wv) {k : Nat} (hk : Next L n O k) {j : Nat} (hj : j < n) (hf : fo L j ≠ k) (hr : rb L j k = true) : S j = false ∧ 0 < wv j := by
  have hSk : S k = false := h.fresh hk hk.1 (next_first hk)
  have hS : S j = false := by
    cases hS : S j with
    | false => rfl
    | true =>
      have := (h.told k hk.1).2 (h.led.closed ((h.told j hj).1 hS) (rb_iff.1 hr))
      rw [hSk] at this
      cases this
  refine ⟨hS, ?_⟩
  rw [h.wts j hj hS]
  have hw : wp L j k = true := wp_iff.2 ⟨next_first hk, rb_iff.1 hr, fun hs => hf ((fo_first (next_first hk)).2 hs.symm)⟩
  exact List.length_pos_of_mem (List.mem_filter.2 ⟨List.mem_range.2 hk.1, by simp [hw, hSk]⟩)

theorem filter_one_less {p : Nat → Bool} {n k : Nat} (hk : k < n) (hp : p k = true) : ((List.range n).filter fun j => p j && !(j == k)).length + 1 = ((List.range n).filter p).length := by
  have h1 : (List.range n).filter (fun j => p j && !(j == k)) = ((List.range n).filter p).erase k := by
    rw [List.Nodup.erase_eq_filter (List.nodup_range.filter _), List.filter_filter]
    refine List.filter_congr (fun y _ => ?_)
    cases p y <;> cases h3 : y == k <;> simp [bne, h3]
  have hm : k ∈ (List.range n).filter p := List.mem_filter.2 ⟨List.mem_range.2 hk, hp⟩
  have := List.length_pos_of_mem hm
  rw [h1, List.length_erase_of_mem hm]
  omega

theorem RSt.next {O : List Nat} {S : Nat → Bool} {wv : Nat → Nat} (h : RSt L n O S wv) {k : Nat} (hk : Next L n O k) : RSt L n (O ++ [k]) (memJ L S k n) (wvJ L wv k n) := by
  have hkf := next_first hk
  have hSk : S k = false := h.fresh hk hk.1 hkf
  refine ⟨h.led.snoc hk, fun x hx => ?_, fun x hx hm => ?_⟩
  · unfold memJ
    rw [told_snoc, ← h.told x hx, ← fo_first hkf]
    simp [hx]
  · unfold memJ at hm
    simp only [hx, decide_true, Bool.true_and, Bool.or_eq_false_iff, beq_eq_false_iff_ne, ne_eq] at hm
    obtain ⟨m1, m2⟩ := hm
    have hcong : wc L n (memJ L S k n) x = ((List.range n).filter fun j => (wp L x j && !S j) && !(j == k)).length := by
      unfold wc
      congr 1
      refine List.filter_congr fun j hj => ?_
      have hj' := List.mem_range.1 hj
      unfold memJ
      cases hw : wp L x j with
      | false => simp
      | true =>
        have hjf := (wp_iff.1 hw).1
        rw [hjf]
        simp [hj']
    rw [hcong]
    unfold wvJ
    rw [h.wts x hx m1]
    by_cases hr : rb L x k = true
    · rw [if_pos ⟨hx, m2, hr⟩]
      have hw : wp L x k = true := wp_iff.2 ⟨hkf, rb_iff.1 hr, fun hs => m2 ((fo_first hkf).2 hs.symm)⟩
      have := filter_one_less (p := fun j => wp L x j && !S j) hk.1 (by simp [hw, hSk])
      unfold wc
      omega
    · rw [if_neg (fun h => hr h.2.2)]
      unfold wc
      congr 1
      refine List.filter_congr fun j hj => ?_
      by_cases e : j = k
      · subst e
        have hw : wp L x j = false := by
          cases hw : wp L x j with
          | false => rfl
          | true => exact absurd (rb_iff.2 (wp_iff.1 hw).2.1) hr
        simp [hw]
      · simp [e]

theorem RSt.done {O : List Nat} {S : Nat → Bool} {wv : Nat → Nat} (h : RSt L n O S wv) (hu : um n S = 0) : leds L n = O := by
  refine leds_eq h.led fun x hx => (h.told x hx).1 ?_
  cases hS : S x with
  | true => rfl
  | false =>
    have := um_set hx hS
    omega

theorem RSt.any {O : List Nat} {S : Nat → Bool} {wv : Nat → Nat} (h : RSt L n O S wv) (hL : ∀ x z, z ∈ nxt L x → z < n) (hu : 0 < um n S) : ∃ k, Next L n O k := by
  unfold um at hu
  obtain ⟨x, hx⟩ := List.exists_mem_of_length_pos hu
  rw [List.mem_filter, List.mem_range] at hx
  exact exists_next hL hx.1 (fun ht => by
    have := (h.told x hx.1).2 ht
    simp [this] at hx)

end

end Go.Proofs.Ytncloielmfplpaa
