/- Plain: reachability, the order in which a depth-first walk finishes, and that walking against the arrows from the last finished on meets just the strongly connected groups. -/
namespace Go.Proofs.Ytncloielmfplpaa

/-- a reaches b. -/
inductive Reach (nx : Nat → List Nat) : Nat → Nat → Prop
  | refl (a : Nat) : Reach nx a a
  | step {a b c : Nat} : Reach nx a b → c ∈ nx b → Reach nx a c

theorem Reach.trans {nx : Nat → List Nat} {a b c : Nat} (h : Reach nx a b) (k : Reach nx b c) : Reach nx a c := by
  induction k with
  | refl => exact h
  | step _ hc ih => exact .step ih hc

theorem Reach.one {nx : Nat → List Nat} {a b : Nat} (h : b ∈ nx a) : Reach nx a b := .step (.refl a) h

/-- a reaches b by things outside S alone (both ends too). -/
inductive RA (nx : Nat → List Nat) (S : Nat → Prop) : Nat → Nat → Prop
  | refl {a : Nat} : ¬ S a → RA nx S a a
  | step {a b c : Nat} : RA nx S a b → c ∈ nx b → ¬ S c → RA nx S a c

theorem RA.reach {nx : Nat → List Nat} {S : Nat → Prop} {a b : Nat} (h : RA nx S a b) : Reach nx a b := by
  induction h with
  | refl => exact .refl _
  | step _ hc _ ih => exact .step ih hc

theorem RA.right {nx : Nat → List Nat} {S : Nat → Prop} {a b : Nat} (h : RA nx S a b) : ¬ S b := by cases h <;> assumption
theorem RA.left {nx : Nat → List Nat} {S : Nat → Prop} {a b : Nat} (h : RA nx S a b) : ¬ S a := by
  induction h with
  | refl h => exact h
  | step _ _ _ ih => exact ih

theorem RA.trans {nx : Nat → List Nat} {S : Nat → Prop} {a b c : Nat} (h : RA nx S a b) (k : RA nx S b c) : RA nx S a c := by
  induction k with
  | refl => exact h
  | step _ hc hs ih => exact .step ih hc hs

theorem RA.mono {nx : Nat → List Nat} {S T : Nat → Prop} {a b : Nat} (h : RA nx S a b) (hs : ∀ x, T x → S x) : RA nx T a b := by
  induction h with
  | refl h => exact .refl fun t => h (hs _ t)
  | step _ hc h ih => exact .step ih hc fun t => h (hs _ t)

theorem RA.of_reach {nx : Nat → List Nat} {a b : Nat} (h : Reach nx a b) : RA nx (fun _ => False) a b := by
  induction h with
  | refl => exact .refl id
  | step _ hc ih => exact .step ih hc id

/-- A set that is closed but for S: who begins in it, and keeps out of S, stays in it. -/
theorem RA.stays {nx : Nat → List Nat} {S C : Nat → Prop} {a b : Nat} (h : RA nx S a b) (ha : C a) (hc : ∀ x z, C x → z ∈ nx x → S z ∨ C z) : C b := by
  induction h with
  | refl => exact ha
  | step _ hz hs ih => exact (hc _ _ ih hz).resolve_left hs

/-- r stands in l, and a behind it. -/
def Bef (l : List Nat) (r a : Nat) : Prop := ∃ A B, l = A ++ B ∧ r ∈ A ∧ a ∈ B

/-- A depth-first walk over the things ys, S having been met: L is what is newly met, in the order in which each is finished. -/
inductive Run (nx : Nat → List Nat) : (Nat → Prop) → List Nat → List Nat → Prop
  | nil {S : Nat → Prop} : Run nx S [] []
  | skip {S : Nat → Prop} {y : Nat} {ys L : List Nat} : S y → Run nx S ys L → Run nx S (y :: ys) L
  | visit {S : Nat → Prop} {y : Nat} {ys L1 L2 : List Nat} : ¬ S y → Run nx (fun x => S x ∨ x = y) (nx y) L1 → Run nx (fun x => S x ∨ x = y ∨ x ∈ L1) ys L2 → Run nx S (y :: ys) (L1 ++ y :: L2)

section
variable {nx : Nat → List Nat} {S : Nat → Prop} {ys L : List Nat}

theorem Run.congr {T : Nat → Prop} (h : Run nx S ys L) (hs : ∀ x, S x ↔ T x) : Run nx T ys L := by
  obtain rfl : S = T := funext fun x => propext (hs x)
  exact h

theorem Run.fresh (h : Run nx S ys L) : ∀ x ∈ L, ¬ S x := by
  induction h with
  | nil => intro x hx; cases hx
  | skip _ _ ih => exact ih
  | visit hy _ _ ih1 ih2 =>
    intro x hx hs
    simp only [List.mem_append, List.mem_cons] at hx
    rcases hx with hx | rfl | hx
    · exact ih1 x hx (.inl hs)
    · exact hy hs
    · exact ih2 x hx (.inl hs)

theorem Run.nodup (h : Run nx S ys L) : L.Nodup := by
  induction h with
  | nil => exact List.nodup_nil
  | skip _ _ ih => exact ih
  | visit hy h1 h2 ih1 ih2 =>
    refine List.nodup_append.2 ⟨ih1, List.nodup_cons.2 ⟨fun hm => h2.fresh _ hm (.inr (.inl rfl)), ih2⟩, ?_⟩
    intro a ha b hb e
    subst e
    rcases List.mem_cons.1 hb with rfl | hb
    · exact h1.fresh _ ha (.inr rfl)
    · exact h2.fresh _ hb (.inr (.inr ha))

theorem Run.heads (h : Run nx S ys L) : ∀ y ∈ ys, S y ∨ y ∈ L := by
  induction h with
  | nil => intro x hx; cases hx
  | skip hy _ ih =>
    intro x hx
    rcases List.mem_cons.1 hx with rfl | hx
    · exact .inl hy
    · exact ih x hx
  | visit hy _ _ ih1 ih2 =>
    intro x hx
    rcases List.mem_cons.1 hx with rfl | hx
    · exact .inr (by simp)
    · rcases ih2 x hx with (h | rfl | h) | h
      · exact .inl h
      · exact .inr (by simp)
      · exact .inr (by simp [h])
      · exact .inr (by simp [h])

theorem Run.closed (h : Run nx S ys L) : ∀ x z, x ∈ L → z ∈ nx x → S z ∨ z ∈ L := by
  induction h with
  | nil => intro x z hx; cases hx
  | skip _ _ ih => exact ih
  | visit hy h1 _ ih1 ih2 =>
    intro x z hx hz
    simp only [List.mem_append, List.mem_cons] at hx ⊢
    rcases hx with hx | rfl | hx
    · rcases ih1 x z hx hz with (h | rfl) | h
      · exact .inl h
      · exact .inr (.inr (.inl rfl))
      · exact .inr (.inl h)
    · rcases h1.heads z hz with (h | rfl) | h
      · exact .inl h
      · exact .inr (.inr (.inl rfl))
      · exact .inr (.inl h)
    · rcases ih2 x z hx hz with (h | rfl | h) | h
      · exact .inl h
      · exact .inr (.inr (.inl rfl))
      · exact .inr (.inl h)
      · exact .inr (.inr (.inr h))

theorem Run.from_heads (h : Run nx S ys L) : ∀ x ∈ L, ∃ y ∈ ys, RA nx S y x := by
  induction h with
  | nil => intro x hx; cases hx
  | skip _ _ ih =>
    intro x hx
    obtain ⟨y, hy, hr⟩ := ih x hx
    exact ⟨y, List.mem_cons_of_mem _ hy, hr⟩
  | @visit S y ys L1 L2 hy _ _ ih1 ih2 =>
    intro x hx
    simp only [List.mem_append, List.mem_cons] at hx
    rcases hx with hx | rfl | hx
    · obtain ⟨z, hz, hr⟩ := ih1 x hx
      have hr' := hr.mono (T := S) fun _ => .inl
      exact ⟨y, by simp, (RA.step (.refl hy) hz hr'.left).trans hr'⟩
    · exact ⟨x, by simp, .refl hy⟩
    · obtain ⟨z, hz, hr⟩ := ih2 x hx
      exact ⟨z, List.mem_cons_of_mem _ hz, hr.mono fun _ => .inl⟩

/-- Just what is reached from the heads outside S. -/
theorem Run.mem_iff (h : Run nx S ys L) (x : Nat) : x ∈ L ↔ ∃ y ∈ ys, RA nx S y x := by
  refine ⟨h.from_heads x, fun ⟨y, hy, hr⟩ => ?_⟩
  exact hr.stays (C := (· ∈ L)) ((h.heads y hy).resolve_left hr.left) fun a z => h.closed a z

theorem Bef.app_left {l : List Nat} {r a : Nat} (h : Bef l r a) (m : List Nat) : Bef (l ++ m) r a := by
  obtain ⟨A, B, rfl, hr, ha⟩ := h
  exact ⟨A, B ++ m, by simp, hr, by simp [ha]⟩

theorem Bef.app_right {l : List Nat} {r a : Nat} (h : Bef l r a) (m : List Nat) : Bef (m ++ l) r a := by
  obtain ⟨A, B, rfl, hr, ha⟩ := h
  exact ⟨m ++ A, B, by simp, by simp [hr], ha⟩

theorem Bef.split {l m : List Nat} {r a : Nat} (hr : r ∈ l) (ha : a ∈ m) : Bef (l ++ m) r a := ⟨l, m, rfl, hr, ha⟩

/-- Either the path keeps out of T too, or it goes through T. -/
theorem RA.through {S T : Nat → Prop} {a b : Nat} (h : RA nx S a b) : RA nx (fun x => S x ∨ T x) a b ∨ ∃ c, T c ∧ RA nx S a c ∧ RA nx S c b := by
  by_cases hT : ∀ x, ¬ T x
  · exact .inl (h.mono fun x hx => hx.resolve_right (hT x))
  · induction h with
    | refl ha =>
      by_cases t : T a
      · exact .inr ⟨a, t, .refl ha, .refl ha⟩
      · exact .inl (.refl fun h => h.elim ha t)
    | @step b c h1 hc hs ih =>
      by_cases t : T c
      · exact .inr ⟨c, t, .step h1 hc hs, .refl hs⟩
      · rcases ih with ih | ⟨d, hd, r1, r2⟩
        · exact .inl (.step ih hc fun h => h.elim hs t)
        · exact .inr ⟨d, hd, r1, .step r2 hc hs⟩

/-- THE ORDER OF FINISHING: where u reaches r (outside S), some thing of u's own group is r or finished behind r. -/
theorem Run.order (h : Run nx S ys L) : ∀ u r, u ∈ L → r ∈ L → RA nx S u r → ∃ a ∈ L, RA nx S u a ∧ RA nx S a u ∧ (r = a ∨ Bef L r a) := by
  induction h with
  | nil => intro u r hu; cases hu
  | skip _ _ ih => exact ih
  | @visit S y ys L1 L2 hy h1 h2 ih1 ih2 =>
    intro u r hu hr hur
    have hC : ∀ x z, (x = y ∨ x ∈ L1) → z ∈ nx x → S z ∨ (z = y ∨ z ∈ L1) := by
      intro x z hx hz
      rcases hx with rfl | hx
      · rcases h1.heads z hz with (h | rfl) | h
        · exact .inl h
        · exact .inr (.inl rfl)
        · exact .inr (.inr h)
      · rcases h1.closed x z hx hz with (h | rfl) | h
        · exact .inl h
        · exact .inr (.inl rfl)
        · exact .inr (.inr h)
    have hyL : ∀ x ∈ L1, RA nx S y x := fun x hx => by
      obtain ⟨z, hz, hr⟩ := h1.from_heads x hx
      have hr' := hr.mono (T := S) fun _ => .inl
      exact (RA.step (.refl hy) hz hr'.left).trans hr'
    have hmemL : L1 ++ y :: L2 = (L1 ++ [y]) ++ L2 := by simp
    simp only [List.mem_append, List.mem_cons] at hu hr
    have hu' : u ∈ L2 ∨ (u = y ∨ u ∈ L1) := by rcases hu with h | h | h <;> simp [h]
    have hr' : r ∈ L2 ∨ (r = y ∨ r ∈ L1) := by rcases hr with h | h | h <;> simp [h]
    rcases hu' with hu2 | hu1
    · rcases hr' with hr2 | hr1
      · -- both in the later part
        rcases hur.through (T := fun x => x = y ∨ x ∈ L1) with hur' | ⟨c, hc, hc1, hc2⟩
        · obtain ⟨a, ha, r1, r2, r3⟩ := ih2 u r hu2 hr2 hur'
          refine ⟨a, by simp [ha], r1.mono fun _ => .inl, r2.mono fun _ => .inl, r3.imp id fun hb => ?_⟩
          rw [hmemL]
          exact hb.app_right _
        · have := hc2.stays (C := fun x => x = y ∨ x ∈ L1) hc hC
          exact absurd (h2.fresh r hr2 (.inr this)) id
      · -- r is finished ahead of u
        refine ⟨u, by simp [hu2], .refl hur.left, .refl hur.left, .inr ?_⟩
        rw [hmemL]
        exact Bef.split (by rcases hr1 with rfl | h <;> simp [*]) hu2
    · have hr1 := hur.stays (C := fun x => x = y ∨ x ∈ L1) hu1 hC
      have endy : RA nx S u y → RA nx S y u → ∃ a ∈ L1 ++ y :: L2, RA nx S u a ∧ RA nx S a u ∧ (r = a ∨ Bef (L1 ++ y :: L2) r a) := fun k1 k2 => by
        refine ⟨y, by simp, k1, k2, ?_⟩
        rcases hr1 with rfl | hr1
        · exact .inl rfl
        · exact .inr (Bef.split hr1 (by simp))
      rcases hu1 with rfl | hu1
      · exact endy (.refl hy) (.refl hy)
      · rcases hur.through (T := fun x => x = y) with hur' | ⟨c, rfl, hc1, hc2⟩
        · have hr1' : r ∈ L1 := by
            rcases hr1 with rfl | h
            · exact absurd (Or.inr rfl) hur'.right
            · exact h
          obtain ⟨a, ha, r1, r2, r3⟩ := ih1 u r hu1 hr1' hur'
          exact ⟨a, by simp [ha], r1.mono fun _ => .inl, r2.mono fun _ => .inl, r3.imp id fun hb => hb.app_left _⟩
        · exact endy hc1 (hyL u hu1)

end

/-- u and v reach each other. -/
def Same (nx : Nat → List Nat) (u v : Nat) : Prop := Reach nx u v ∧ Reach nx v u

theorem Same.refl {nx : Nat → List Nat} (u : Nat) : Same nx u u := ⟨.refl _, .refl _⟩
theorem Same.symm {nx : Nat → List Nat} {u v : Nat} (h : Same nx u v) : Same nx v u := ⟨h.2, h.1⟩
theorem Same.trans {nx : Nat → List Nat} {u v x : Nat} (h : Same nx u v) (k : Same nx v x) : Same nx u x := ⟨h.1.trans k.1, k.2.trans h.2⟩

/-- bk leads against nx. -/
def Against (nx bk : Nat → List Nat) : Prop := ∀ a b, b ∈ nx a ↔ a ∈ bk b

theorem Reach.against {nx bk : Nat → List Nat} (hb : Against nx bk) {a b : Nat} (h : Reach nx a b) : Reach bk b a := by
  induction h with
  | refl => exact .refl _
  | step _ hc ih => exact (Reach.one ((hb _ _).1 hc)).trans ih

theorem Against.symm {nx bk : Nat → List Nat} (hb : Against nx bk) : Against bk nx := fun a b => (hb b a).symm

/-- THE SECOND WALK's STEP. done = A ++ i :: B; S is what is met: whatever is of one group with a thing of B. From i, against the arrows, just i's own group is newly met. -/
theorem second_step {nx bk : Nat → List Nat} (hb : Against nx bk) {n : Nat} {A B M : List Nat} {i : Nat} {S : Nat → Prop}
    (hrun : Run nx (fun _ => False) (List.range n) (A ++ i :: B)) (hS : ∀ x, S x ↔ ∃ b ∈ B, Same nx x b) (hi : ¬ S i)
    (hM : Run bk S [i] M) (hn : ∀ a b, b ∈ nx a → a < n) : ∀ x, x ∈ M ↔ Same nx x i := by
  have hall : ∀ x, x < n → x ∈ A ++ i :: B := fun x hx => (hrun.heads x (List.mem_range.2 hx)).resolve_left id
  have hnd := hrun.nodup
  intro x
  rw [hM.mem_iff]
  constructor
  · rintro ⟨y, hy, hr⟩
    obtain rfl : y = i := by simpa using hy
    have hxi : Reach nx x y := hr.reach.against hb.symm
    have hx : x ∈ A ++ y :: B := by
      cases hr with
      | refl => simp
      | step _ hc _ => exact hall _ (hn _ _ ((hb _ _).2 hc))
    obtain ⟨a, ha, r1, r2, r3⟩ := hrun.order x y hx (by simp) (RA.of_reach hxi)
    rcases r3 with rfl | r3
    · exact ⟨r1.reach, r2.reach⟩
    · -- a stands behind y: it is met, and so is x
      have haB : a ∈ B := by
        obtain ⟨A', B', e, h1, h2⟩ := r3
        rcases List.append_eq_append_iff.1 e with ⟨m, hm1, hm2⟩ | ⟨m, hm1, hm2⟩
        · rw [hm1] at h1
          cases m with
          | nil =>
            simp only [List.nil_append] at hm2
            rw [← hm2] at h2
            simp only [List.append_nil] at h1
            exact absurd rfl ((List.nodup_append.1 hnd).2.2 y h1 y (by simp))
          | cons c m =>
            simp only [List.cons_append, List.cons.injEq] at hm2
            rw [hm2.2]
            simp [h2]
        · have : y ∈ A := by rw [hm1]; simp [h1]
          exact absurd rfl ((List.nodup_append.1 hnd).2.2 y this y (by simp))
      exact absurd ((hS x).2 ⟨a, haB, r1.reach, r2.reach⟩) hr.right
  · rintro ⟨hxi, hix⟩
    refine ⟨i, by simp, ?_⟩
    -- the path from x to i, read against the arrows, keeps to i's group
    have key : ∀ y, Reach bk i y → Same nx y i → RA bk S i y := by
      intro y hy
      induction hy with
      | refl => exact fun _ => .refl hi
      | @step b c h1 hc ih =>
        intro hci
        have hcb : c ∈ bk b := hc
        have hbi : Same nx b i := ⟨h1.against hb.symm, hci.2.trans (Reach.one ((hb _ _).2 hcb))⟩
        refine .step (ih hbi) hc fun hs => ?_
        obtain ⟨d, hd, hcd⟩ := (hS c).1 hs
        exact hi ((hS i).2 ⟨d, hd, hci.symm.trans hcd⟩)
    exact key x (hxi.against hb) ⟨hxi, hix⟩

/-- What is met later is reached by nothing that was met earlier .. rather: a thing newly met reaches nothing that was met. -/
theorem second_apart {nx : Nat → List Nat} {n : Nat} {A B : List Nat} {i : Nat} {S : Nat → Prop}
    (hrun : Run nx (fun _ => False) (List.range n) (A ++ i :: B)) (hS : ∀ x, S x ↔ ∃ b ∈ B, Same nx x b) (hi : ¬ S i) : ∀ y, S y → ¬ Reach nx i y := by
  intro y hy hr
  obtain ⟨b, hb, hyb⟩ := (hS y).1 hy
  have hnd := hrun.nodup
  obtain ⟨a, ha, r1, r2, r3⟩ := hrun.order i b (by simp) (by simp [hb]) (RA.of_reach (hr.trans hyb.1))
  rcases r3 with rfl | r3
  · exact hi ((hS i).2 ⟨b, hb, r1.reach, r2.reach⟩)
  · have haB : a ∈ B := by
      obtain ⟨A', B', e, h1, h2⟩ := r3
      -- b ∈ A', and b ∈ B: A' goes beyond i
      have hnd' := hnd
      rw [e] at hnd'
      have hbB' : b ∉ B' := fun h => absurd rfl ((List.nodup_append.1 hnd').2.2 b h1 b h)
      rcases List.append_eq_append_iff.1 e with ⟨m, hm1, hm2⟩ | ⟨m, hm1, hm2⟩
      · cases m with
        | nil =>
          simp only [List.nil_append] at hm2
          exact absurd (by rw [← hm2]; simp [hb]) hbB'
        | cons c m =>
          simp only [List.cons_append, List.cons.injEq] at hm2
          rw [hm2.2]
          simp [h2]
      · exact absurd (by rw [hm2]; simp [hb]) hbB'
    exact hi ((hS i).2 ⟨a, haB, r1.reach, r2.reach⟩)

end Go.Proofs.Ytncloielmfplpaa
