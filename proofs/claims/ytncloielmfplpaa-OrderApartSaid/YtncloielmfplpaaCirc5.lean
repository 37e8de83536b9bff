/- Plain: the edges turned round; the groups as the second walk numbers them. -/
import Derived.Test.YtncloielmfplpaaGraph5
namespace Go.Proofs.Ytncloielmfplpaa
set_option linter.unusedVariables false
set_option linter.unusedSimpArgs false

/-- The edges against the arrows, of the first k things. -/
def edg (L : List (List Nat)) (k : Nat) : List (Nat × Nat) := (List.range k).flatMap fun a => (nxt L a).map fun b => (b, a)

theorem edg_zero (L : List (List Nat)) : edg L 0 = [] := rfl
theorem edg_succ (L : List (List Nat)) (k : Nat) : edg L (k + 1) = edg L k ++ (nxt L k).map fun b => (b, k) := by simp [edg, List.range_succ]
theorem mem_edg {L : List (List Nat)} {k b a : Nat} : (b, a) ∈ edg L k ↔ a < k ∧ b ∈ nxt L a := by
  unfold edg
  simp only [List.mem_flatMap, List.mem_range, List.mem_map, Prod.mk.injEq]
  constructor
  · rintro ⟨x, hx, y, hy, rfl, rfl⟩
    exact ⟨hx, hy⟩
  · rintro ⟨h1, h2⟩
    exact ⟨a, h1, b, h2, rfl, rfl⟩
theorem edg_len {L : List (List Nat)} {m : Nat} (h : ∀ x, (nxt L x).length ≤ m) (k : Nat) : (edg L k).length ≤ k * m := by
  induction k with
  | zero => simp [edg]
  | succ k ih =>
    rw [edg_succ, List.length_append, List.length_map, Nat.succ_mul]
    have := h k
    omega

/-- The graph against the arrows. -/
def backL (L : List (List Nat)) : List (List Nat) := adjP L.length (edg L L.length)

theorem back_against {L : List (List Nat)} (hL : ∀ x z, z ∈ nxt L x → z < L.length) : Against (nxt L) (nxt (backL L)) := by
  intro a b
  unfold backL
  rw [mem_adjP, mem_edg]
  exact ⟨fun h => ⟨hL a b h, nxt_out h, h⟩, fun h => h.2.2⟩

theorem back_lt {L : List (List Nat)} {x z : Nat} (h : z ∈ nxt (backL L) x) : z < L.length := by
  unfold backL at h
  exact (mem_edg.1 (mem_adjP.1 h).2).1

/-- The groups: gr numbers them from 0 to c. -/
structure Grp (L : List (List Nat)) (n : Nat) (gr : Nat → Nat) (c : Nat) : Prop where
  lt : ∀ i, i < n → gr i < c
  same : ∀ i j, i < n → j < n → (gr i = gr j ↔ Same (nxt L) i j)
  onto : ∀ d, d < c → ∃ i, i < n ∧ gr i = d
  le : c ≤ n

/-- The numbering in the midst: the last t of D have been gone through. -/
structure GSt (L : List (List Nat)) (n : Nat) (D : List Nat) (t : Nat) (S : Nat → Bool) (gr : Nat → Nat) (c : Nat) : Prop where
  seen : ∀ x, S x = true ↔ ∃ b ∈ D.drop (D.length - t), Same (nxt L) x b
  lt : ∀ x, S x = true → gr x < c
  same : ∀ x y, S x = true → S y = true → (gr x = gr y ↔ Same (nxt L) x y)
  onto : ∀ d, d < c → ∃ x, x < n ∧ S x = true ∧ gr x = d
  le : c ≤ t

theorem GSt.start (L : List (List Nat)) (n : Nat) (D : List Nat) (gr : Nat → Nat) : GSt L n D 0 (fun _ => false) gr 0 :=
  ⟨fun x => by simp, fun x h => by simp at h, fun x y h => by simp at h, fun d h => by omega, Nat.le_refl _⟩

theorem GSt.done {L : List (List Nat)} {n : Nat} {D : List Nat} {S : Nat → Bool} {gr : Nat → Nat} {c : Nat} (h : GSt L n D D.length S gr c) (hD : ∀ x, x < n → x ∈ D) (hl : D.length = n) : Grp L n gr c := by
  have hs : ∀ x, x < n → S x = true := fun x hx => (h.seen x).2 ⟨x, by simpa using hD x hx, .refl _⟩
  exact ⟨fun i hi => h.lt i (hs i hi), fun i j hi hj => h.same i j (hs i hi) (hs j hj), fun d hd => by
    obtain ⟨x, h1, _, h3⟩ := h.onto d hd
    exact ⟨x, h1, h3⟩, by have := h.le; omega⟩

/-- gr where the things of M have the number c. -/
def grM (gr : Nat → Nat) (M : List Nat) (c : Nat) : Nat → Nat := fun x => if x ∈ M then c else gr x

theorem grM_nil (gr : Nat → Nat) (c : Nat) : grM gr [] c = gr := by funext x; simp [grM]

theorem drop_one {D : List Nat} {t : Nat} (ht : t < D.length) : D.drop (D.length - (t + 1)) = D[D.length - 1 - t] :: D.drop (D.length - t) := by
  have h1 : D.length - (t + 1) < D.length := by omega
  rw [List.drop_eq_getElem_cons h1]
  congr 1
  · congr 1; omega
  · congr 1; omega

theorem take_drop_split {D : List Nat} {t : Nat} (ht : t < D.length) : D = D.take (D.length - 1 - t) ++ D[D.length - 1 - t] :: D.drop (D.length - t) := by
  have h1 := List.take_append_drop (D.length - 1 - t) D
  have h2 : D.drop (D.length - 1 - t) = D[D.length - 1 - t] :: D.drop (D.length - t) := by
    have := drop_one ht
    rwa [show D.length - (t + 1) = D.length - 1 - t by omega] at this
  rw [h2] at h1
  exact h1.symm

/-- A thing that was met: nothing turns. -/
theorem GSt.skip {L : List (List Nat)} {n : Nat} {D : List Nat} {t : Nat} {S : Nat → Bool} {gr : Nat → Nat} {c : Nat} (h : GSt L n D t S gr c) (ht : t < D.length) (hi : S D[D.length - 1 - t] = true) : GSt L n D (t + 1) S gr c := by
  refine ⟨fun x => ?_, h.lt, h.same, h.onto, Nat.le_succ_of_le h.le⟩
  rw [h.seen, drop_one ht]
  constructor
  · rintro ⟨b, hb, hs⟩
    exact ⟨b, by simp [hb], hs⟩
  · rintro ⟨b, hb, hs⟩
    rcases List.mem_cons.1 hb with rfl | hb
    · obtain ⟨b', hb', hs'⟩ := (h.seen _).1 hi
      exact ⟨b', hb', hs.trans hs'⟩
    · exact ⟨b, hb, hs⟩

/-- A new group. -/
theorem GSt.new {L : List (List Nat)} {n : Nat} {D : List Nat} {t : Nat} {S S' : Nat → Bool} {gr : Nat → Nat} {c : Nat} {M : List Nat} (h : GSt L n D t S gr c) (hl : L.length = n) (hL : ∀ x z, z ∈ nxt L x → z < n) (hrun : Run (nxt L) (fun _ => False) (List.range n) D)
    (ht : t < D.length) (hi : S D[D.length - 1 - t] = false) (hM : Run (nxt (backL L)) (fun x => S x = true) [D[D.length - 1 - t]] M) (hS' : ∀ x, S' x = true ↔ S x = true ∨ x ∈ M) (hDn : D[D.length - 1 - t] < n) :
    GSt L n D (t + 1) S' (grM gr M c) (c + 1) ∧ D[D.length - 1 - t] ∈ M := by
  subst hl
  have hrun' := hrun
  rw [take_drop_split ht] at hrun'
  have hcls := second_step (back_against hL) hrun' h.seen (by simp [hi]) hM (fun a b hb => nxt_out hb)
  have him : D[D.length - 1 - t] ∈ M := (hcls _).2 (.refl _)
  have hdis : ∀ x, x ∈ M → S x = false := fun x hx => by
    have := hM.fresh x hx
    simpa using this
  have hin : ∀ x, x ∈ M → grM gr M c x = c := fun x hx => if_pos hx
  have hout : ∀ x, S x = true → grM gr M c x = gr x := fun x hx => if_neg (fun hm => by rw [hdis x hm] at hx; cases hx)
  refine ⟨⟨fun x => ?_, fun x hx => ?_, fun x y hx hy => ?_, fun d hd => ?_, by have := h.le; omega⟩, him⟩
  · rw [hS', h.seen, hcls, drop_one ht]
    constructor
    · rintro (⟨b, hb, hs⟩ | hs)
      · exact ⟨b, by simp [hb], hs⟩
      · exact ⟨_, by simp, hs⟩
    · rintro ⟨b, hb, hs⟩
      rcases List.mem_cons.1 hb with rfl | hb
      · exact .inr hs
      · exact .inl ⟨b, hb, hs⟩
  · rcases (hS' x).1 hx with h1 | h1
    · rw [hout x h1]
      have := h.lt x h1
      omega
    · rw [hin x h1]
      omega
  · rcases (hS' x).1 hx with h1 | h1 <;> rcases (hS' y).1 hy with h2 | h2
    · rw [hout x h1, hout y h2]
      exact h.same x y h1 h2
    · rw [hout x h1, hin y h2]
      have h3 := h.lt x h1
      constructor
      · intro e; omega
      · intro hs
        have : x ∈ M := (hcls x).2 (hs.trans ((hcls y).1 h2))
        rw [hdis x this] at h1
        cases h1
    · rw [hin x h1, hout y h2]
      have h3 := h.lt y h2
      constructor
      · intro e; omega
      · intro hs
        have : y ∈ M := (hcls y).2 (hs.symm.trans ((hcls x).1 h1))
        rw [hdis y this] at h2
        cases h2
    · rw [hin x h1, hin y h2]
      exact ⟨fun _ => ((hcls x).1 h1).trans ((hcls y).1 h2).symm, fun _ => rfl⟩
  · rcases Nat.lt_or_ge d c with h1 | h1
    · obtain ⟨x, h2, h3, h4⟩ := h.onto d h1
      exact ⟨x, h2, (hS' x).2 (.inl h3), by rw [hout x h3]; exact h4⟩
    · exact ⟨_, hDn, (hS' _).2 (.inr him), by rw [hin _ him]; omega⟩

theorem grM_snoc (gr : Nat → Nat) (M : List Nat) (x c : Nat) : grM gr (M ++ [x]) c = fun y => if y = x then c else grM gr M c y := by
  funext y
  unfold grM
  by_cases h1 : y = x <;> by_cases h2 : y ∈ M <;> simp [h1, h2]

theorem um_none (n : Nat) : um n (fun _ => false) = n := by
  unfold um
  rw [List.filter_eq_self.2 (by simp)]
  simp

theorem um_all {n : Nat} {S : Nat → Bool} (h : ∀ x, x < n → S x = true) : um n S = 0 := by
  unfold um
  rw [List.filter_eq_nil_iff.2 (fun x hx => by simp [h x (List.mem_range.1 hx)])]
  rfl

theorem run_seen {nx : Nat → List Nat} {S : Nat → Prop} {i : Nat} {M : List Nat} (h : Run nx S [i] M) (hi : S i) : M = [] := by
  cases h with
  | skip _ h2 => cases h2; rfl
  | visit h1 _ _ => exact absurd hi h1

/-- One round. -/
theorem GSt.next {L : List (List Nat)} {n : Nat} {D : List Nat} {t : Nat} {S S' : Nat → Bool} {gr : Nat → Nat} {c : Nat} {M : List Nat} (h : GSt L n D t S gr c) (hl : L.length = n) (hL : ∀ x z, z ∈ nxt L x → z < n) (hrun : Run (nxt L) (fun _ => False) (List.range n) D)
    (ht : t < D.length) (hM : Run (nxt (backL L)) (fun x => S x = true) [D[D.length - 1 - t]] M) (hS' : ∀ x, S' x = true ↔ S x = true ∨ x ∈ M) (hDn : D[D.length - 1 - t] < n) :
    GSt L n D (t + 1) S' (grM gr M c) (if M = [] then c else c + 1) := by
  cases hi : S D[D.length - 1 - t] with
  | true =>
    have hM0 := run_seen hM hi
    subst hM0
    rw [if_pos rfl, grM_nil]
    have : S' = S := by
      funext x
      rw [Bool.eq_iff_iff, hS']
      simp
    rw [this]
    exact h.skip ht hi
  | false =>
    obtain ⟨h1, h2⟩ := h.new hl hL hrun ht hi hM hS' hDn
    rw [if_neg (by rintro rfl; cases h2)]
    exact h1

end Go.Proofs.Ytncloielmfplpaa
