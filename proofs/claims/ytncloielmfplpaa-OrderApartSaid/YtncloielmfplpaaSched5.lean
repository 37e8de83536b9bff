/- Plain: in which order the groups are told. -/
import Derived.Test.YtncloielmfplpaaCirc5
namespace Go.Proofs.Ytncloielmfplpaa
set_option linter.unusedVariables false
set_option linter.unusedSimpArgs false

/-- Is x of a group that is told? O: the first thing of each group told. -/
def Told (L : List (List Nat)) (O : List Nat) (x : Nat) : Prop := ∃ o ∈ O, Same (nxt L) o x

/-- May k's group be told next? -/
def Ready (L : List (List Nat)) (O : List Nat) (k : Nat) : Prop := ¬ Told L O k ∧ ∀ x, Reach (nxt L) k x → Same (nxt L) k x ∨ Told L O x

/-- k is the first thing whose group may be told next. -/
def Next (L : List (List Nat)) (n : Nat) (O : List Nat) (k : Nat) : Prop := k < n ∧ Ready L O k ∧ ∀ j, j < k → ¬ Ready L O j

/-- The groups told so far, as they must be. -/
inductive Led (L : List (List Nat)) (n : Nat) : List Nat → Prop
  | nil : Led L n []
  | snoc {O : List Nat} {k : Nat} : Led L n O → Next L n O k → Led L n (O ++ [k])

def AllTold (L : List (List Nat)) (n : Nat) (O : List Nat) : Prop := ∀ x, x < n → Told L O x

theorem Told.left {L : List (List Nat)} {O P : List Nat} {x : Nat} (h : Told L O x) : Told L (O ++ P) x := by
  obtain ⟨o, ho, hs⟩ := h
  exact ⟨o, List.mem_append_left _ ho, hs⟩
theorem told_snoc {L : List (List Nat)} {O : List Nat} {k x : Nat} : Told L (O ++ [k]) x ↔ Told L O x ∨ Same (nxt L) k x := by
  constructor
  · rintro ⟨o, ho, hs⟩
    rcases List.mem_append.1 ho with h | h
    · exact .inl ⟨o, h, hs⟩
    · rw [List.mem_singleton.1 h] at hs
      exact .inr hs
  · rintro (h | h)
    · exact h.left
    · exact ⟨k, by simp, h⟩

theorem Next.uniq {L : List (List Nat)} {n : Nat} {O : List Nat} {j k : Nat} (h : Next L n O j) (g : Next L n O k) : j = k := by
  rcases Nat.lt_trichotomy j k with h1 | h1 | h1
  · exact absurd h.2.1 (g.2.2 j h1)
  · exact h1
  · exact absurd g.2.1 (h.2.2 k h1)

theorem Led.same {L : List (List Nat)} {n : Nat} {O : List Nat} (h : Led L n O) : ∀ {O' : List Nat}, Led L n O' → O.length = O'.length → O = O' := by
  induction h with
  | nil =>
    intro O' h' e
    exact (List.eq_nil_of_length_eq_zero e.symm).symm
  | @snoc O k h1 h2 ih =>
    intro O' h' e
    cases h' with
    | nil => simp at e
    | @snoc P j g1 g2 =>
      have := ih g1 (by simpa using e)
      subst this
      rw [h2.uniq g2]

theorem Led.short {L : List (List Nat)} {n : Nat} {O' : List Nat} (h : Led L n O') : ∀ {O : List Nat}, Led L n O → AllTold L n O → O'.length ≤ O.length := by
  induction h with
  | nil => intro O _ _; exact Nat.zero_le _
  | @snoc P k h1 h2 ih =>
    intro O g ha
    have := ih g ha
    rcases Nat.lt_or_ge P.length O.length with h3 | h3
    · simp only [List.length_append, List.length_singleton]
      omega
    · have e := h1.same g (by omega)
      subst e
      exact absurd (ha k h2.1) h2.2.1.1

theorem Led.uniq {L : List (List Nat)} {n : Nat} {O O' : List Nat} (h : Led L n O) (ha : AllTold L n O) (h' : Led L n O') (ha' : AllTold L n O') : O = O' :=
  h.same h' (Nat.le_antisymm (h.short h' ha') (h'.short h ha))

open Classical in
/-- The first things of the groups, in the order in which the groups are told. -/
noncomputable def leds (L : List (List Nat)) (n : Nat) : List Nat := if h : ∃ O, Led L n O ∧ AllTold L n O then Classical.choose h else []

theorem leds_eq {L : List (List Nat)} {n : Nat} {O : List Nat} (h : Led L n O) (ha : AllTold L n O) : leds L n = O := by
  have he : ∃ O, Led L n O ∧ AllTold L n O := ⟨O, h, ha⟩
  unfold leds
  rw [dif_pos he]
  exact (Classical.choose_spec he).1.uniq (Classical.choose_spec he).2 h ha

theorem Led.lt {L : List (List Nat)} {n : Nat} {O : List Nat} (h : Led L n O) : ∀ o ∈ O, o < n := by
  induction h with
  | nil => simp
  | snoc _ h2 ih =>
    intro o ho
    rcases List.mem_append.1 ho with h | h
    · exact ih o h
    · rw [List.mem_singleton.1 h]
      exact h2.1

theorem Led.closed {L : List (List Nat)} {n : Nat} {O : List Nat} (h : Led L n O) : ∀ {x y : Nat}, Told L O x → Reach (nxt L) x y → Told L O y := by
  induction h with
  | nil => rintro x y ⟨o, ho, _⟩; cases ho
  | snoc _ h2 ih =>
    intro x y hx hy
    rcases told_snoc.1 hx with h | h
    · exact (ih h hy).left
    · rcases h2.2.1.2 y (h.1.trans hy) with h3 | h3
      · exact told_snoc.2 (.inr h3)
      · exact h3.left

theorem filter_lt {p q : Nat → Bool} {l : List Nat} {z : Nat} (h : ∀ x, p x = true → q x = true) (hz : z ∈ l) (h1 : q z = true) (h2 : p z = false) : (l.filter p).length < (l.filter q).length := by
  induction l with
  | nil => cases hz
  | cons a l ih =>
    have hle : (l.filter p).length ≤ (l.filter q).length := by
      clear ih hz
      induction l with
      | nil => simp
      | cons b l ih2 =>
        simp only [List.filter_cons]
        cases hp : p b with
        | true => rw [h b hp]; simpa using ih2
        | false =>
          cases hq : q b <;> simp
          · exact ih2
          · omega
    simp only [List.filter_cons]
    rcases List.mem_cons.1 hz with rfl | hz
    · rw [h1, h2]
      simp
      omega
    · have := ih hz
      cases hp : p a with
      | true => rw [h a hp]; simpa using this
      | false =>
        cases hq : q a <;> simp
        · exact this
        · omega

theorem exists_ready {L : List (List Nat)} {n : Nat} {O : List Nat} (hL : ∀ x z, z ∈ nxt L x → z < n) {x : Nat} (hx : x < n) (hu : ¬ Told L O x) : ∃ k, k < n ∧ Ready L O k := by
  obtain ⟨m, hm⟩ : ∃ m, m = ((List.range n).filter (rb L x)).length := ⟨_, rfl⟩
  induction m using Nat.strongRecOn generalizing x with
  | _ m ih =>
    by_cases hr : Ready L O x
    · exact ⟨x, hx, hr⟩
    · obtain ⟨y, h1, h2, h3⟩ : ∃ y, Reach (nxt L) x y ∧ ¬ Same (nxt L) x y ∧ ¬ Told L O y := by
        refine Classical.byContradiction fun hc => hr ⟨hu, fun y hy => ?_⟩
        refine Classical.byContradiction fun h4 => hc ⟨y, hy, fun h => h4 (.inl h), fun h => h4 (.inr h)⟩
      have hy : y < n := Reach.lt hL hx h1
      refine ih _ ?_ hy h3 rfl
      rw [hm]
      refine filter_lt (z := x) (fun z hz => rb_iff.2 (h1.trans (rb_iff.1 hz))) (List.mem_range.2 hx) (rb_iff.2 (.refl x)) ?_
      cases hb : rb L y x with
      | false => rfl
      | true => exact absurd ⟨h1, rb_iff.1 hb⟩ h2

theorem least {P : Nat → Prop} {k : Nat} (h : P k) : ∃ j, j ≤ k ∧ P j ∧ ∀ i, i < j → ¬ P i := by
  induction k using Nat.strongRecOn with
  | _ k ih =>
    by_cases hc : ∃ i, i < k ∧ P i
    · obtain ⟨i, h1, h2⟩ := hc
      obtain ⟨j, h3, h4, h5⟩ := ih i h1 h2
      exact ⟨j, by omega, h4, h5⟩
    · exact ⟨k, Nat.le_refl _, h, fun i hi hp => hc ⟨i, hi, hp⟩⟩

theorem exists_next {L : List (List Nat)} {n : Nat} {O : List Nat} (hL : ∀ x z, z ∈ nxt L x → z < n) {x : Nat} (hx : x < n) (hu : ¬ Told L O x) : ∃ k, Next L n O k := by
  obtain ⟨k, h1, h2⟩ := exists_ready hL hx hu
  obtain ⟨j, h3, h4, h5⟩ := least (P := Ready L O) h2
  exact ⟨j, by omega, h4, h5⟩

open Classical in
/-- Of one group with o? -/
noncomputable def sm (L : List (List Nat)) (o : Nat) : Nat → Bool := fun x => decide (Same (nxt L) o x)
theorem sm_iff {L : List (List Nat)} {o x : Nat} : sm L o x = true ↔ Same (nxt L) o x := by simp [sm]

/-- What order.Groups answers. -/
noncomputable def gOut {α : Type} [BEq α] [LawfulBEq α] (nodes : List α) (uses : List (α × α)) : List (List α) :=
  if errOf nodes uses = 0 then (leds (graphL nodes uses) nodes.length).map fun o => pick (sm (graphL nodes uses) o) nodes else []

/-! ### by numbers of groups -/

/-- Which groups a group waits for: those that a thing of it uses, that are not told. -/
structure Wt (L : List (List Nat)) (n : Nat) (gr : Nat → Nat) (k : Nat) (tk : List Nat) (S : Nat → Bool) (WS : Nat → List Nat) : Prop where
  nd : ∀ d, (WS d).Nodup
  iff : ∀ d e, e ∈ WS d ↔ (∃ a b, (a < k ∧ b ∈ nxt L a ∨ a = k ∧ b ∈ tk) ∧ gr a = d ∧ gr b = e) ∧ e ≠ d ∧ S e = false

theorem Wt.start (L : List (List Nat)) (n : Nat) (gr : Nat → Nat) (S : Nat → Bool) : Wt L n gr 0 [] S (fun _ => []) :=
  ⟨fun d => List.nodup_nil, fun d e => by
    constructor
    · intro h; cases h
    · rintro ⟨⟨a, b, h | h, _⟩, _⟩
      · omega
      · cases h.2⟩

/-- A thing of the next list. -/
theorem Wt.skip {L : List (List Nat)} {n : Nat} {gr : Nat → Nat} {k z : Nat} {tk : List Nat} {WS : Nat → List Nat} (h : Wt L n gr k tk (fun _ => false) WS) (he : gr k = gr z) : Wt L n gr k (tk ++ [z]) (fun _ => false) WS := by
  refine ⟨h.nd, fun d e => ?_⟩
  rw [h.iff]
  constructor
  · rintro ⟨⟨a, b, h1 | h1, h2⟩, h3⟩
    · exact ⟨⟨a, b, .inl h1, h2⟩, h3⟩
    · exact ⟨⟨a, b, .inr ⟨h1.1, List.mem_append_left _ h1.2⟩, h2⟩, h3⟩
  · rintro ⟨⟨a, b, h1 | ⟨rfl, h1⟩, h2⟩, h3⟩
    · exact ⟨⟨a, b, .inl h1, h2⟩, h3⟩
    · rcases List.mem_append.1 h1 with h4 | h4
      · exact ⟨⟨a, b, .inr ⟨rfl, h4⟩, h2⟩, h3⟩
      · rw [List.mem_singleton.1 h4] at h2
        exact absurd (h2.2.symm.trans (he.symm.trans h2.1)) h3.1

/-- What a set holds with e put in. -/
def putL (l : List Nat) (e : Nat) : List Nat := if e ∈ l then l else l ++ [e]
theorem mem_putL {l : List Nat} {e x : Nat} : x ∈ putL l e ↔ x ∈ l ∨ x = e := by
  unfold putL
  split
  · rename_i h
    constructor
    · exact .inl
    · rintro (h1 | rfl)
      · exact h1
      · exact h
  · simp
theorem putL_nodup {l : List Nat} {e : Nat} (h : l.Nodup) : (putL l e).Nodup := by
  unfold putL
  split
  · exact h
  · rename_i h1
    exact List.nodup_append.2 ⟨h, by simp, fun a ha b hb e => by simp at hb; subst hb; subst e; exact h1 ha⟩

/-- WS where d's list is l. -/
def setW (WS : Nat → List Nat) (d : Nat) (l : List Nat) : Nat → List Nat := fun x => if x = d then l else WS x

theorem Wt.put {L : List (List Nat)} {n : Nat} {gr : Nat → Nat} {k z : Nat} {tk : List Nat} {WS : Nat → List Nat} (h : Wt L n gr k tk (fun _ => false) WS) (he : gr k ≠ gr z) : Wt L n gr k (tk ++ [z]) (fun _ => false) (setW WS (gr k) (putL (WS (gr k)) (gr z))) := by
  refine ⟨fun d => ?_, fun d e => ?_⟩
  · unfold setW
    split
    · exact putL_nodup (h.nd _)
    · exact h.nd d
  · have h0 : e ∈ setW WS (gr k) (putL (WS (gr k)) (gr z)) d ↔ e ∈ WS d ∨ (d = gr k ∧ e = gr z) := by
      unfold setW
      split
      · rename_i e1
        subst e1
        rw [mem_putL]
        simp
      · rename_i e1
        simp [e1]
    rw [h0, h.iff]
    constructor
    · rintro (⟨⟨a, b, h1 | h1, h2⟩, h3⟩ | ⟨rfl, rfl⟩)
      · exact ⟨⟨a, b, .inl h1, h2⟩, h3⟩
      · exact ⟨⟨a, b, .inr ⟨h1.1, List.mem_append_left _ h1.2⟩, h2⟩, h3⟩
      · exact ⟨⟨k, z, .inr ⟨rfl, by simp⟩, rfl, rfl⟩, Ne.symm he, rfl⟩
    · rintro ⟨⟨a, b, h1 | ⟨rfl, h1⟩, h2⟩, h3⟩
      · exact .inl ⟨⟨a, b, .inl h1, h2⟩, h3⟩
      · rcases List.mem_append.1 h1 with h4 | h4
        · exact .inl ⟨⟨a, b, .inr ⟨rfl, h4⟩, h2⟩, h3⟩
        · rw [List.mem_singleton.1 h4] at h2
          exact .inr ⟨h2.1.symm, h2.2.symm⟩

theorem Wt.close {L : List (List Nat)} {n : Nat} {gr : Nat → Nat} {k : Nat} {S : Nat → Bool} {WS : Nat → List Nat} (h : Wt L n gr k (nxt L k) S WS) : Wt L n gr (k + 1) [] S WS := by
  refine ⟨h.nd, fun d e => ?_⟩
  rw [h.iff]
  constructor
  · rintro ⟨⟨a, b, h1 | ⟨rfl, h1⟩, h2⟩, h3⟩
    · exact ⟨⟨a, b, .inl ⟨by omega, h1.2⟩, h2⟩, h3⟩
    · exact ⟨⟨a, b, .inl ⟨by omega, h1⟩, h2⟩, h3⟩
  · rintro ⟨⟨a, b, h1 | ⟨_, h1⟩, h2⟩, h3⟩
    · rcases Nat.lt_or_ge a k with h4 | h4
      · exact ⟨⟨a, b, .inl ⟨h4, h1.2⟩, h2⟩, h3⟩
      · obtain rfl : a = k := by omega
        exact ⟨⟨a, b, .inr ⟨rfl, h1.2⟩, h2⟩, h3⟩
    · cases h1

/-- The groups' sets with x taken out of those of the first j. -/
def cutW (WS : Nat → List Nat) (x j : Nat) : Nat → List Nat := fun d => if d < j then (WS d).filter (· != x) else WS d

theorem cutW_zero (WS : Nat → List Nat) (x : Nat) : cutW WS x 0 = WS := by
  funext d
  simp [cutW]
theorem cutW_succ (WS : Nat → List Nat) (x j : Nat) : cutW WS x (j + 1) = setW (cutW WS x j) j ((WS j).filter (· != x)) := by
  funext d
  unfold cutW setW
  by_cases h1 : d = j
  · subst h1
    simp
  · by_cases h2 : d < j
    · simp [h1, h2, show d < j + 1 by omega]
    · simp [h1, h2, show ¬ d < j + 1 by omega]

theorem Wt.told {L : List (List Nat)} {n c : Nat} {gr : Nat → Nat} {k x : Nat} {S : Nat → Bool} {WS : Nat → List Nat} (h : Wt L n gr k [] S WS) (hc : ∀ d, c ≤ d → WS d = []) : Wt L n gr k [] (setB S x) (cutW WS x c) := by
  have h0 : ∀ d e, e ∈ cutW WS x c d ↔ e ∈ WS d ∧ e ≠ x := by
    intro d e
    unfold cutW
    split
    · simp
    · rename_i h1
      rw [hc d (by omega)]
      simp
  refine ⟨fun d => ?_, fun d e => ?_⟩
  · unfold cutW
    split
    · exact (h.nd d).filter _
    · exact h.nd d
  · rw [h0, h.iff]
    have h3 : setB S x e = false ↔ S e = false ∧ e ≠ x := by
      unfold setB
      by_cases e1 : e = x <;> simp [e1]
    rw [h3]
    constructor
    · rintro ⟨⟨h1, h2, h4⟩, h5⟩
      exact ⟨h1, h2, h4, h5⟩
    · rintro ⟨h1, h2, h4, h5⟩
      exact ⟨⟨h1, h2, h4⟩, h5⟩

/-- The groups in the midst of the telling. -/
structure SchSt (L : List (List Nat)) (n : Nat) (gr : Nat → Nat) (c : Nat) (O : List Nat) (S : Nat → Bool) (WS : Nat → List Nat) : Prop where
  led : Led L n O
  told : ∀ d, S d = true ↔ ∃ o ∈ O, gr o = d
  cnt : O.length + um c S = c
  wt : Wt L n gr n [] S WS

theorem SchSt.start {L : List (List Nat)} {n : Nat} {gr : Nat → Nat} {c : Nat} {WS : Nat → List Nat} (h : Wt L n gr n [] (fun _ => false) WS) : SchSt L n gr c [] (fun _ => false) WS :=
  ⟨.nil, fun d => by simp, by rw [um_none]; simp, h⟩

theorem SchSt.toldIff {L : List (List Nat)} {n : Nat} {gr : Nat → Nat} {c : Nat} {O : List Nat} {S : Nat → Bool} {WS : Nat → List Nat} (h : SchSt L n gr c O S WS) (hg : Grp L n gr c) {x : Nat} (hx : x < n) : Told L O x ↔ S (gr x) = true := by
  rw [h.told]
  constructor
  · rintro ⟨o, ho, hs⟩
    exact ⟨o, ho, (hg.same o x (h.led.lt o ho) hx).2 hs⟩
  · rintro ⟨o, ho, he⟩
    exact ⟨o, ho, (hg.same o x (h.led.lt o ho) hx).1 he⟩

theorem SchSt.readyIff {L : List (List Nat)} {n : Nat} {gr : Nat → Nat} {c : Nat} {O : List Nat} {S : Nat → Bool} {WS : Nat → List Nat} (h : SchSt L n gr c O S WS) (hg : Grp L n gr c) (hL : ∀ x z, z ∈ nxt L x → z < n) (hl : L.length = n) {i : Nat} (hi : i < n) :
    (S (gr i) = false ∧ WS (gr i) = []) ↔ Ready L O i := by
  constructor
  · rintro ⟨h1, h2⟩
    refine ⟨fun ht => (by rw [h.toldIff hg hi, h1] at ht; cases ht), fun x hx => ?_⟩
    induction hx with
    | refl => exact .inl (.refl _)
    | @step b z hb hz ih =>
      have hbn : b < n := by rw [← hl]; exact nxt_out hz
      have hzn := hL _ _ hz
      rcases ih with h3 | h3
      · by_cases he : gr z = gr i
        · exact .inl ((hg.same i z hi hzn).1 he.symm)
        · refine .inr ((h.toldIff hg hzn).2 ?_)
          cases hS : S (gr z) with
          | true => rfl
          | false =>
            have : gr z ∈ WS (gr i) := (h.wt.iff _ _).2 ⟨⟨b, z, .inl ⟨hbn, hz⟩, ((hg.same i b hi hbn).2 h3).symm, rfl⟩, he, hS⟩
            rw [h2] at this
            cases this
      · exact .inr (h.led.closed h3 (.one hz))
  · rintro ⟨h1, h2⟩
    have hSi : S (gr i) = false := by
      cases hS : S (gr i) with
      | false => rfl
      | true => exact absurd ((h.toldIff hg hi).2 hS) h1
    refine ⟨hSi, List.eq_nil_iff_forall_not_mem.2 fun e he => ?_⟩
    obtain ⟨⟨a, b, h3 | h3, h4, rfl⟩, h5, h6⟩ := (h.wt.iff _ _).1 he
    · have hbn := hL _ _ h3.2
      have hs := (hg.same i a hi h3.1).1 h4.symm
      rcases h2 b (hs.1.trans (.one h3.2)) with h7 | h7
      · exact h5 ((hg.same i b hi hbn).2 h7).symm
      · rw [h.toldIff hg hbn, h6] at h7
        cases h7
    · cases h3.2

/-- There is one to be told. -/
theorem SchSt.any {L : List (List Nat)} {n : Nat} {gr : Nat → Nat} {c : Nat} {O : List Nat} {S : Nat → Bool} {WS : Nat → List Nat} (h : SchSt L n gr c O S WS) (hg : Grp L n gr c) (hL : ∀ x z, z ∈ nxt L x → z < n) (hl : L.length = n) (hc : O.length < c) :
    ∃ i, i < n ∧ S (gr i) = false ∧ WS (gr i) = [] := by
  have hu : 0 < um c S := by have := h.cnt; omega
  obtain ⟨d, hd, hS⟩ : ∃ d, d < c ∧ S d = false := by
    unfold um at hu
    obtain ⟨d, hd⟩ := List.exists_mem_of_length_pos hu
    rw [List.mem_filter, List.mem_range] at hd
    exact ⟨d, hd.1, by simpa using hd.2⟩
  obtain ⟨x, hx, rfl⟩ := hg.onto d hd
  obtain ⟨i, h1, h2⟩ := exists_ready hL hx (O := O) (fun ht => by rw [h.toldIff hg hx, hS] at ht; cases ht)
  exact ⟨i, h1, (h.readyIff hg hL hl h1).2 h2⟩

theorem SchSt.next {L : List (List Nat)} {n : Nat} {gr : Nat → Nat} {c : Nat} {O : List Nat} {S : Nat → Bool} {WS : Nat → List Nat} (h : SchSt L n gr c O S WS) (hg : Grp L n gr c) (hL : ∀ x z, z ∈ nxt L x → z < n) (hl : L.length = n) {i : Nat} (hi : i < n) (h1 : S (gr i) = false) (h2 : WS (gr i) = [])
    (h3 : ∀ j, j < i → ¬ (S (gr j) = false ∧ WS (gr j) = [])) (hc : ∀ d, c ≤ d → WS d = []) : SchSt L n gr c (O ++ [i]) (setB S (gr i)) (cutW WS (gr i) c) := by
  refine ⟨.snoc h.led ⟨hi, (h.readyIff hg hL hl hi).1 ⟨h1, h2⟩, fun j hj hr => h3 j hj ((h.readyIff hg hL hl (by omega)).2 hr)⟩, fun d => ?_, ?_, h.wt.told hc⟩
  · rw [setB_iff, h.told]
    constructor
    · rintro (⟨o, ho, he⟩ | rfl)
      · exact ⟨o, List.mem_append_left _ ho, he⟩
      · exact ⟨i, by simp, rfl⟩
    · rintro ⟨o, ho, he⟩
      rcases List.mem_append.1 ho with h4 | h4
      · exact .inl ⟨o, h4, he⟩
      · rw [List.mem_singleton.1 h4] at he
        exact .inr he.symm
  · have := um_set (hg.lt i hi) h1
    have := h.cnt
    simp only [List.length_append, List.length_singleton]
    omega

theorem SchSt.done {L : List (List Nat)} {n : Nat} {gr : Nat → Nat} {c : Nat} {O : List Nat} {S : Nat → Bool} {WS : Nat → List Nat} (h : SchSt L n gr c O S WS) (hg : Grp L n gr c) (hc : ¬ O.length < c) : leds L n = O := by
  refine leds_eq h.led fun x hx => (h.toldIff hg hx).2 ?_
  cases hS : S (gr x) with
  | true => rfl
  | false =>
    have := um_set (hg.lt x hx) hS
    have := h.cnt
    omega

/-- A group's things. -/
theorem grp_pick {α : Type} {L : List (List Nat)} {gr : Nat → Nat} {c : Nat} {nodes : List α} (hg : Grp L nodes.length gr c) {i : Nat} (hi : i < nodes.length) : pick (fun k => gr k == gr i) nodes = pick (sm L i) nodes :=
  pick_congr fun k hk => by
    rw [Bool.eq_iff_iff, sm_iff, ← hg.same i k hi hk]
    simp only [beq_iff_eq]
    exact eq_comm

end Go.Proofs.Ytncloielmfplpaa
