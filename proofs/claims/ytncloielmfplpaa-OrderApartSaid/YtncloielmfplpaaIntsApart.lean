/- IntsApart: lists with memory of their own are told so; what they held is written over. -/
import Derived.Test.YtncloielmfplpaaSameI
namespace Go.Proofs.Ytncloielmfplpaa
open Go.RowKit
set_option linter.unusedVariables false
set_option linter.unusedSimpArgs false

/-- len marks from number off on. -/
def marks (off len : Nat) : List Int := (List.range len).map fun t => 7000000 + ((off + t : Nat) : Int)

theorem marks_length (off len : Nat) : (marks off len).length = len := by simp [marks]
theorem marks_succ (off len : Nat) : marks off (len + 1) = marks off len ++ [7000000 + ((off + len : Nat) : Int)] := by simp [marks, List.range_succ]
theorem marks_get {off len j : Nat} (h : j < (marks off len).length) : (marks off len)[j] = 7000000 + ((off + j : Nat) : Int) := by simp [marks]
theorem marks_take {off len j : Nat} (h : j ≤ len) : (marks off len).take j = marks off j := by
  rw [marks, ← List.map_take, List.take_range, Nat.min_eq_left h, marks]

/-- How many lie in the first i rows. -/
def upTo (lens : List Nat) (i : Nat) : Nat := (lens.take i).sum

theorem upTo_succ {lens : List Nat} {i : Nat} (h : i < lens.length) : upTo lens (i + 1) = upTo lens i + lens[i] := by
  rw [upTo, List.take_succ_eq_append_getElem h, List.sum_append]; simp [upTo]

theorem upTo_le (lens : List Nat) (i : Nat) : upTo lens i ≤ lens.sum := by
  have h := List.sum_append (l₁ := lens.take i) (l₂ := lens.drop i)
  rw [List.take_append_drop] at h
  unfold upTo
  omega

/-- The rows: vs, their lengths lens, each an owned slice of ints, no two with memory in common. -/
structure Rows0 (w : World) (vs : List Value) (lens : List Nat) : Prop where
  len : vs.length = lens.length
  own : ∀ i (h : i < vs.length), ∃ Y : List Int, Y.length = lens[i]'(by omega) ∧ Own w 3 1 vs[i] Y.length (cellsOf encI Y)
  apart : ∀ i j (hi : i < vs.length) (hj : j < vs.length), i ≠ j → ∀ b, vs[i].ownBlock = some b → vs[j].ownBlock ≠ some b

/-- The rows ahead of i hold their marks, and row i its first j. -/
def Marked (w : World) (vs : List Value) (lens : List Nat) (i j : Nat) : Prop :=
  ∀ i' (h : i' < vs.length) (h' : i' < lens.length), ∃ Y : List Int, Y.length = lens[i'] ∧ Own w 3 1 vs[i'] Y.length (cellsOf encI Y) ∧ (i' < i → Y = marks (upTo lens i') lens[i']) ∧ (i' = i → Y.take j = marks (upTo lens i) j)

theorem Marked.kept {w w' : World} {vs : List Value} {lens : List Nat} {i j : Nat} (h : Marked w vs lens i j) {F : Nat → Prop} (hk : Kept F w w') (hd : ∀ i' (h : i' < vs.length) b, vs[i'].ownBlock = some b → ¬ F b) : Marked w' vs lens i j := by
  intro i' hi hi'
  obtain ⟨Y, h1, h2, h3, h4⟩ := h i' hi hi'
  exact ⟨Y, h1, h2.frame hk (hd i' hi), h3, h4⟩

theorem Marked.next {w : World} {vs : List Value} {lens : List Nat} {i : Nat} (h : Marked w vs lens i (lens.getD i 0)) (hi : i < lens.length) : Marked w vs lens (i + 1) 0 := by
  intro i' h1 h2
  obtain ⟨Y, h3, h4, h5, h6⟩ := h i' h1 h2
  refine ⟨Y, h3, h4, fun hlt => ?_, fun _ => by simp [marks]⟩
  rcases Nat.lt_or_ge i' i with hl | hl
  · exact h5 hl
  · obtain rfl : i' = i := by omega
    have := h6 rfl
    simp only [List.getD, List.getElem?_eq_getElem h2, Option.getD_some] at this
    rw [← h3, List.take_length] at this
    rw [← h3]
    exact this

theorem Marked.step {w : World} {vs : List Value} {lens : List Nat} {i j g off n c : Nat} (hi : i < vs.length) (hi' : i < lens.length) (hv : vs[i] = .slice (some ⟨g, off, none⟩) n c) (hj : j < lens[i]) (h : Marked w vs lens i j)
    (hap : ∀ i' (h : i' < vs.length), i ≠ i' → vs[i'].ownBlock ≠ some g) :
    Marked (w.setCell ⟨g, off + j, none⟩ (.int .i64 (7000000 + ((upTo lens i + j : Nat) : Int)))) vs lens i (j + 1) := by
  intro i' h1 h2
  obtain ⟨Y, h3, h4, h5, h6⟩ := h i' h1 h2
  by_cases he : i' = i
  · subst he
    have hY := h6 rfl
    obtain ⟨a', c', hs, _⟩ := h4.shape
    rw [hv] at h4 hs
    simp only [Value.slice.injEq] at hs
    obtain ⟨_, rfl, _⟩ := hs
    refine ⟨Y.set j (7000000 + ((upTo lens i' + j : Nat) : Int)), by simp [h3], ?_, fun h => absurd h (Nat.lt_irrefl _), fun _ => ?_⟩
    · have := h4.setAt (j := j) (by omega) (.int .i64 (7000000 + ((upTo lens i' + j : Nat) : Int)))
      rw [hv, List.length_set]
      rw [cellsOf_encI] at this ⊢
      rw [List.map_set]
      exact this
    · rw [marks_succ, ← hY]
      apply List.ext_getElem?
      intro t
      simp only [List.getElem?_take, List.getElem?_set, List.getElem?_append, List.length_take]
      by_cases ht : t < j
      · have : ¬ j = t := by omega
        have h' : t < min j Y.length := by omega
        simp [ht, this, h', Nat.lt_succ_of_lt ht]
      · by_cases ht' : t = j
        · subst ht'
          have h' : ¬ t < min t Y.length := by omega
          have hm : min t Y.length = t := by omega
          have hty : t < Y.length := by omega
          simp [hm, hty]
        · have h1 : ¬ t < j + 1 := by omega
          have h2 : ¬ t < min j Y.length := by omega
          have h3 : 1 ≤ t - min j Y.length := by omega
          simp [h1, h2]
          omega
  · exact ⟨Y, h3, h4.setCell (hap i' h1 (fun e => he e.symm)) _, h5, fun e => absurd e he⟩

theorem Marked.next_of {w : World} {vs : List Value} {lens : List Nat} {i n : Nat} (h : Marked w vs lens i n) (hi : i < lens.length) (hn : n = lens[i]) : Marked w vs lens (i + 1) 0 :=
  Marked.next (by rw [List.getD, List.getElem?_eq_getElem hi]; rw [hn] at h; exact h) hi

/-- All rows hold their marks. -/
def AllMarked (w : World) (vs : List Value) (lens : List Nat) : Prop :=
  ∀ i (h : i < vs.length) (h' : i < lens.length), Own w 3 1 vs[i] lens[i] (cellsOf encI (marks (upTo lens i) lens[i]))

theorem Marked.all {w : World} {vs : List Value} {lens : List Nat} (h : Marked w vs lens vs.length 0) : AllMarked w vs lens := by
  intro i h1 h2
  obtain ⟨Y, h3, h4, h5, _⟩ := h i h1 h2
  rw [← h5 h1, ← h3]
  exact h4

/-- Of the first k rows the grown ones: gs, in the list gv. -/
structure Grown20 (w : World) (B : Nat) (vs : List Value) (lens : List Nat) (gv : Value) (gs : List Value) (k : Nat) : Prop where
  len : gs.length = k
  list : Own w 22 1 gv k gs
  listNew : ∀ b, gv.ownBlock = some b → B ≤ b
  own : ∀ i (h : i < gs.length) (h' : i < lens.length), Own w 3 1 gs[i] (lens[i] + 20) (cellsOf encI (marks (upTo lens i) lens[i] ++ marks (lens.sum + 20 * i) 20))
  blocks : ∀ i (h : i < gs.length) (h' : i < vs.length) b, gs[i].ownBlock = some b → vs[i].ownBlock = some b ∨ B ≤ b
  notList : ∀ i (h : i < gs.length) b, gs[i].ownBlock = some b → gv.ownBlock ≠ some b
  rows : AllMarked w vs lens

theorem Grown20.step {wk wx wy : World} {B : Nat} {vs : List Value} {lens : List Nat} {gv gv' g : Value} {gs : List Value} {k : Nat} {o : Obj} (G : Grown20 wk B vs lens gv gs k) (hk : k < vs.length) (hk' : k < lens.length)
    (hap : ∀ i j (hi : i < vs.length) (hj : j < vs.length), i ≠ j → ∀ b, vs[i].ownBlock = some b → vs[j].ownBlock ≠ some b) (hvB : ∀ i (h : i < vs.length) b, vs[i].ownBlock = some b → b < B) (hB : B ≤ wk.heap.size)
    (K1 : Kept (fun b => vs[k].ownBlock = some b ∨ wk.heap.size ≤ b) wk wx) (hg : Own wx 3 1 g (lens[k] + 20) (cellsOf encI (marks (upTo lens k) lens[k] ++ marks (lens.sum + 20 * k) 20)))
    (hvk : Own wx 3 1 vs[k] lens[k] (cellsOf encI (marks (upTo lens k) lens[k]))) (hgb : ∀ b, g.ownBlock = some b → vs[k].ownBlock = some b ∨ wk.heap.size ≤ b)
    (K2 : Kept (fun b => gv.ownBlock = some b) (wx.alloc o) wy) (hgv : Own wy 22 1 gv' (k + 1) (gs ++ [g])) (hb : ∀ b, gv'.ownBlock = some b → gv.ownBlock = some b ∨ (wx.alloc o).heap.size ≤ b) :
    Grown20 wy B vs lens gv' (gs ++ [g]) (k + 1) := by
  have hvN : ∀ i (h : i < vs.length) b, vs[i].ownBlock = some b → gv.ownBlock ≠ some b := fun i h b h1 h2 => by
    have := hvB i h b h1
    have := G.listNew b h2
    omega
  have s1 := K1.size
  have a1 : ∀ {v : Value} {n : Nat} {xs : List Value}, Own wx 3 1 v n xs → (∀ b, v.ownBlock = some b → gv.ownBlock ≠ some b) → Own wy 3 1 v n xs :=
    fun h hd => (h.alloc o).frame K2 (fun b h1 h2 => hd b h1 h2)
  have hgN : ∀ b, g.ownBlock = some b → gv.ownBlock ≠ some b := fun b h1 h2 => by
    rcases hgb b h1 with h | h
    · exact hvN k hk b h h2
    · have := G.list.lt h2
      omega
  refine ⟨by simp [G.len], hgv, ?_, ?_, ?_, ?_, ?_⟩
  · intro b h
    rcases hb b h with h | h
    · exact G.listNew b h
    · simp at h
      omega
  · intro i h h'
    rw [List.length_append, List.length_singleton, G.len] at h
    by_cases hi : i < gs.length
    · rw [List.getElem_append_left hi]
      refine a1 ((G.own i hi h').frame K1 ?_) (fun b h1 => G.notList i hi b h1)
      rintro b h1 (h2 | h2)
      · rcases G.blocks i hi (by rw [G.len] at hi; omega) b h1 with h3 | h3
        · exact hap i k (by rw [G.len] at hi; omega) hk (by rw [G.len] at hi; omega) b h3 h2
        · have := hvB k hk b h2
          omega
      · have := (G.own i hi h').lt h1
        omega
    · obtain rfl : i = k := by rw [G.len] at hi; omega
      have e : (gs ++ [g])[i]'(by simp [G.len]) = g := by simp [G.len]
      rw [e]
      exact a1 hg hgN
  · intro i h h' b h1
    rw [List.length_append, List.length_singleton, G.len] at h
    by_cases hi : i < gs.length
    · rw [List.getElem_append_left hi] at h1
      exact G.blocks i hi h' b h1
    · obtain rfl : i = k := by rw [G.len] at hi; omega
      have e : (gs ++ [g])[i]'(by simp [G.len]) = g := by simp [G.len]
      rw [e] at h1
      exact (hgb b h1).imp id (fun h => Nat.le_trans hB h)
  · intro i h b h1 h2
    have hlt : b < wx.heap.size := by
      rw [List.length_append, List.length_singleton, G.len] at h
      by_cases hi : i < gs.length
      · rw [List.getElem_append_left hi] at h1
        have := (G.own i hi (by rw [G.len] at hi; omega)).lt h1
        omega
      · obtain rfl : i = k := by rw [G.len] at hi; omega
        have e : (gs ++ [g])[i]'(by simp [G.len]) = g := by simp [G.len]
        rw [e] at h1
        exact hg.lt h1
    rcases hb b h2 with h3 | h3
    · rw [List.length_append, List.length_singleton, G.len] at h
      by_cases hi : i < gs.length
      · rw [List.getElem_append_left hi] at h1
        exact G.notList i hi b h1 h3
      · obtain rfl : i = k := by rw [G.len] at hi; omega
        have e : (gs ++ [g])[i]'(by simp [G.len]) = g := by simp [G.len]
        rw [e] at h1
        exact hgN b h1 h3
    · simp at h3
      omega
  · intro i h h'
    by_cases hi : i = k
    · subst hi
      exact a1 hvk (fun b h1 => hvN i h b h1)
    · refine a1 ((G.rows i h h').frame K1 ?_) (fun b h1 => hvN i h b h1)
      rintro b h1 (h2 | h2)
      · exact hap i k h hk hi b h1 h2
      · have := hvB i h b h1
        omega

/-- The grown list lies where the row lies, or in memory that is new since B. -/
def InOrNew (v g : Value) (n t B : Nat) : Prop := (∃ a c, v = .slice a n c ∧ g = .slice a (n + t) c) ∨ ∀ b, g.ownBlock = some b → B ≤ b

/-- One mark more behind a row that is grown: the row itself holds what it held. -/
theorem grow_one {w w' : World} {v g g' : Value} {n t : Nat} {xs ys news : List Value} {B : Nat} {e : TypeId} (hv : Own w e 1 v n xs) (hg : Own w e 1 g (n + t) (xs ++ ys)) (hcase : InOrNew v g n t B)
    (hvB : ∀ b, v.ownBlock = some b → b < B) (hB : B ≤ w.heap.size) {o : Obj} (K : Kept (fun b => g.ownBlock = some b) (w.alloc o) w') (hg' : Own w' e 1 g' (n + t + 1) (xs ++ ys ++ news)) (hold : Own w' e 1 g (n + t) (xs ++ ys))
    (hnew : (∃ a c, g = .slice a (n + t) c ∧ g' = .slice a (n + t + 1) c) ∨ ∀ b, g'.ownBlock = some b → (w.alloc o).heap.size ≤ b) :
    Own w' e 1 v n xs ∧ InOrNew v g' n (t + 1) B := by
  refine ⟨?_, ?_⟩
  · rcases hcase with ⟨a, c, rfl, rfl⟩ | h
    · have := hold.sub (k := n) (by omega)
      rw [List.take_append_of_le_length (by have := hv.1; omega), List.take_of_length_le (by have := hv.1; omega)] at this
      exact this
    · exact (hv.alloc o).frame K (fun b h1 h2 => by have := hvB b h1; have := h b h2; omega)
  · rcases hnew with ⟨a, c, h1, h2⟩ | h2
    · rcases hcase with ⟨a', c', h3, h4⟩ | h3
      · rw [h1] at h4
        simp only [Value.slice.injEq, true_and] at h4
        obtain ⟨rfl, rfl⟩ := h4
        exact .inl ⟨a, c, h3, h2⟩
      · refine .inr (fun b hb => h3 b ?_)
        rw [h1]
        rw [h2] at hb
        cases a with
        | none => simp [Value.ownBlock] at hb
        | some a => simpa [Value.ownBlock] using hb
    · exact .inr (fun b hb => by have := h2 b hb; simp at this; omega)

set_option maxRecDepth 100000 in
set_option maxHeartbeats 4000000 in
theorem intsApart (w : World) (lv : Value) (vs : List Value) (lens : List Nat) (hl : Own w 22 1 lv vs.length vs) (h0 : Rows0 w vs lens) (hd : ∀ i (h : i < vs.length) b, vs[i].ownBlock = some b → lv.ownBlock ≠ some b)
    (hL : vs.length ≤ 100000) (hlen : ∀ i (h : i < lens.length), lens[i] ≤ 17592186043904) (hsum : lens.sum ≤ 4611686018427387904) :
    Calls Try.prog 19 #[lv] w fun e w' => e = .returned (.bool true) ∧ Kept (fun b => ∃ i, ∃ h : i < vs.length, vs[i].ownBlock = some b) w w' := by
  obtain ⟨la, lc, rfl, l1, l2, l3⟩ := hl.shape
  have HL := Lib.hid hl
  have H0 := Lib.hid h0
  have HD := Lib.hid hd
  have HN := Lib.hid hlen
  have L3 := Lib.hid l3
  have HE := Lib.hid h0.len
  have HS : ∀ i, Hid (upTo lens i ≤ 4611686018427387904) := fun i => Lib.hid (Nat.le_trans (upTo_le lens i) hsum)
  unfold maxLen at l2
  clear hl h0 hd hlen l3
  go_enter Try.func19, Try.ntmps19
  go_wp2_with fail
  go_loopw [3, 4] (fun n i wr => ∃ k : Nat, k ≤ vs.length ∧ i = .int .i64 k ∧ n = .int .i64 (upTo lens k : Nat) ∧ Marked wr vs lens k 0 ∧ Kept (fun b => ∃ i, ∃ h : i < vs.length, vs[i].ownBlock = some b) w wr) (fun _ i _ => vs.length - (intOf i).toNat)
  case atStart =>
    refine ⟨0, Nat.zero_le _, rfl, by simp [upTo], ?_, Kept.refl _ _⟩
    intro i' h1 h2
    obtain ⟨Y, h3, h4⟩ := H0.out.own i' h1
    exact ⟨Y, h3, h4, fun h => by omega, fun _ => by simp [marks]⟩
  case round =>
    obtain ⟨k, hk, rfl, rfl, hM, hK⟩ := hrel
    by_cases hlt : k < vs.length
    · have hlt' : k < lens.length := by have := HE.out; omega
      obtain ⟨g, off, cap, hla, _, _, hcell, _, _⟩ := HL.out.elt (by omega)
      have hrow : ∀ wx : World, Kept (fun b => ∃ i, ∃ h : i < vs.length, vs[i].ownBlock = some b) w wx → wx.cell? ⟨g, off + k, none⟩ = some vs[k] := fun wx hx =>
        hx.cell (hcell k vs[k] (by simp [hlt])) (fun ⟨i, h, hb⟩ => HD.out i h _ hb (by rw [hla]; rfl))
      obtain ⟨Y, hY1, hY2⟩ := H0.out.own k hlt
      obtain ⟨ra, rc, hrv, r1, r2, r3⟩ := hY2.shape
      simp only [Value.slice.injEq] at hla
      obtain ⟨rfl, _⟩ := hla
      rw [hY1] at hrv r1 r3
      have hsz : lens[k] ≤ 17592186043904 := HN.out k hlt'
      have hup := (HS k).out
      rw [hrv] at hrow
      have HROW := Lib.hid hrow
      have HRV := Lib.hid hrv
      have R3 := Lib.hid r3
      have HM := Lib.hid hM
      have HK := Lib.hid hK
      obtain ⟨nk, hnk⟩ : ∃ nk, nk = lens[k] := ⟨_, rfl⟩
      have HNK := Lib.hid hnk
      rw [← hnk] at hsz HROW r1 HRV R3
      obtain ⟨uk, huk⟩ : ∃ uk, uk = upTo lens k := ⟨_, rfl⟩
      have HUK := Lib.hid huk
      rw [← huk] at hup ⊢
      clear hM hK hrow hcell hrv r3 hY1 hY2 Y hnk huk
      go_wp2_with fail
      go_loopw [3, 5] (fun n j wx => ∃ j' : Nat, j' ≤ nk ∧ j = .int .i64 j' ∧ n = .int .i64 ((uk + j' : Nat) : Int) ∧ Marked wx vs lens k j' ∧ Kept (fun b => ∃ i, ∃ h : i < vs.length, vs[i].ownBlock = some b) w wx) (fun _ j _ => nk - (intOf j).toNat)
      case atStart => exact ⟨0, Nat.zero_le _, rfl, by simp, HM.out, HK.out⟩
      case round =>
        obtain ⟨j, hj, rfl, rfl, hM, hK⟩ := hrel
        have hc1 := HROW.out _ hK
        have HM2 := Lib.hid hM
        have HK2 := Lib.hid hK
        clear hM hK
        by_cases hjlt : j < nk
        · cases ra with
          | none => exact absurd (R3.out rfl).1 (by omega)
          | some rad =>
            obtain ⟨Y, hY1, hY2, _, _⟩ := HM2.out k hlt hlt'
            have hY3 := hY2
            rw [HRV.out] at hY3
            obtain ⟨g2, off2, cap2, hv2, _, _, hcell2, hfr2, hg2⟩ := hY3.elt (by rw [hY1, ← HNK.out]; omega)
            simp only [Value.slice.injEq, Option.some.injEq] at hv2
            obtain ⟨rfl, _, rfl⟩ := hv2
            obtain ⟨y0, hc2⟩ : ∃ y0, wr.cell? ⟨g2, off2 + j, none⟩ = some (.int .i64 y0) :=
              ⟨Y[j]'(by rw [hY1, ← HNK.out]; exact hjlt), hcell2 j _ (by rw [cellsOf_encI]; simp [hY1, ← HNK.out, hjlt])⟩
            have hf2 := hfr2 (off2 + j)
            have HST := Lib.hid (HM2.out.step hlt hlt' HRV.out (by rw [← HNK.out]; exact hjlt) (fun i' hi' hne hb => H0.out.apart k i' hlt hi' hne g2 (by rw [HRV.out]; rfl) hb))
            have HKT := Lib.hid (HK2.out.setCell (p := ⟨g2, off2 + j, none⟩) (fun _ => ⟨k, hlt, by rw [HRV.out]; rfl⟩) (.int .i64 (7000000 + ((upTo lens k + j : Nat) : Int))))
            rw [← HUK.out] at HST HKT
            clear hY1 hY2 hY3 hcell2 hfr2 hg2
            go_wp2
            go_roundw
            case rel => exact ⟨j + 1, by omega, by go_num, by go_num, HST.out, HKT.out⟩
            case measure => simp [intOf]; omega
        · obtain rfl : j = nk := by omega
          have HMN := Lib.hid (HM2.out.next_of hlt' HNK.out)
          have HUS := Lib.hid (upTo_succ hlt')
          rw [← HUK.out, ← HNK.out] at HUS
          go_wp2
          go_roundw
          case rel => exact ⟨k + 1, by omega, by go_num, by rw [HUS.out], HMN.out, HK2.out⟩
          case measure => simp [intOf]; omega
    · obtain rfl : k = vs.length := by omega
      have hlen0 : vs.length = lens.length := HE.out
      have hS : upTo lens vs.length = lens.sum := by rw [hlen0, upTo, List.take_length]
      have hvB : ∀ i (h : i < vs.length) b, vs[i].ownBlock = some b → b < wr.heap.size := fun i h b hb => (hM.all i h (by omega)).lt hb
      have hG : Grown20 wr wr.heap.size vs lens (.slice none 0 0) [] 0 :=
        ⟨rfl, Own.nil _ _ _, fun b h => by simp [Value.ownBlock] at h, fun i h => absurd h (Nat.not_lt_zero _), fun i h => absurd h (Nat.not_lt_zero _), fun i h => absurd h (Nat.not_lt_zero _), hM.all⟩
      obtain ⟨B, hBw⟩ : ∃ B, B = wr.heap.size := ⟨_, rfl⟩
      rw [← hBw] at hvB hG
      have hB0 : w.heap.size ≤ B := by rw [hBw]; exact hK.size
      have hB1 : B ≤ wr.heap.size := by rw [hBw]; exact Nat.le_refl _
      obtain ⟨S, hSS⟩ : ∃ S, S = lens.sum := ⟨_, rfl⟩
      have hup := (HS vs.length).out
      rw [hS, ← hSS] at hup
      rw [hS, ← hSS]
      have HVB := Lib.hid hvB
      have HG := Lib.hid hG
      have HK := Lib.hid hK
      have HSS := Lib.hid hSS
      have HB1 := Lib.hid hB1
      have HB0 := Lib.hid hB0
      have HUS := Lib.hid hS
      clear hM hK hS hvB hG hBw hB1 hB0 hSS hlen0
      go_wp2_with fail
      go_loopw [3, 6, 7] (fun n gv i wx => ∃ k gs, k ≤ vs.length ∧ i = .int .i64 (k : Nat) ∧ n = .int .i64 ((S + 20 * k : Nat) : Int) ∧ Grown20 wx B vs lens gv gs k ∧ Kept (fun b => ∃ i, ∃ h : i < vs.length, vs[i].ownBlock = some b) w wx ∧ B ≤ wx.heap.size) (fun _ _ i _ => vs.length - (intOf i).toNat)
      case atStart => exact ⟨0, [], Nat.zero_le _, rfl, rfl, HG.out, HK.out, HB1.out⟩
      case round =>
        obtain ⟨k, gs, hk, rfl, rfl, hG, hK, hB⟩ := hrel
        by_cases hlt : k < vs.length
        · have hlt' : k < lens.length := by have := HE.out; omega
          obtain ⟨g, off, cap, hla, _, _, hcell, _, _⟩ := HL.out.elt (by omega)
          have hc0 : wr.cell? ⟨g, off + k, none⟩ = some vs[k] :=
            hK.cell (hcell k vs[k] (by simp [hlt])) (fun ⟨i, h, hb⟩ => HD.out i h _ hb (by rw [hla]; rfl))
          simp only [Value.slice.injEq] at hla
          obtain ⟨rfl, _⟩ := hla
          have hrow := hG.rows k hlt hlt'
          obtain ⟨nk, hnk⟩ : ∃ nk, nk = lens[k] := ⟨_, rfl⟩
          have hsz : lens[k] ≤ 17592186043904 := HN.out k hlt'
          obtain ⟨M, hM⟩ : ∃ M, M = cellsOf encI (marks (upTo lens k) lens[k]) := ⟨_, rfl⟩
          have hMl : M.length = nk := by rw [hM, cellsOf_encI, List.length_map, marks_length, hnk]
          rw [← hM, ← hnk] at hrow
          rw [← hnk] at hsz
          obtain ⟨ra, rc, hrv, r1, r2, r3⟩ := hrow.shape
          have hvkB := HVB.out k hlt
          rw [hrv] at hc0 hrow hvkB
          have HG := Lib.hid hG
          have HK := Lib.hid hK
          have HRV := Lib.hid hrv
          have HNK := Lib.hid hnk
          have HM := Lib.hid hM
          have HML := Lib.hid hMl
          have HROW := Lib.hid hrow
          have HVK := Lib.hid hvkB
          have HB := Lib.hid hB
          obtain ⟨wk, hwk⟩ : ∃ wk, wk = wr := ⟨_, rfl⟩
          rw [← hwk] at HG HK HROW HB
          have HWK := Lib.hid hwk
          clear hG hK hrv hnk hcell hrow r3 hM hMl hvkB hB hwk
          go_wp2_with fail
          go_loopw [3, 8, 9] (fun n gg j wx => ∃ t : Nat, t ≤ 20 ∧ j = .int .i64 t ∧ n = .int .i64 ((S + 20 * k + t : Nat) : Int) ∧
              Own wx 3 1 gg (nk + t) (M ++ cellsOf encI (marks (S + 20 * k) t)) ∧ InOrNew (.slice ra nk rc) gg nk t wk.heap.size ∧
              Own wx 3 1 (.slice ra nk rc) nk M ∧ Kept (fun b => (Value.slice ra nk rc).ownBlock = some b ∨ wk.heap.size ≤ b) wk wx) (fun _ _ j _ => 20 - (intOf j).toNat)
          case atStart =>
            have := HROW.out
            rw [HWK.out] at this ⊢
            exact ⟨0, Nat.zero_le _, rfl, rfl, by simpa [marks, cellsOf_encI] using this, .inl ⟨ra, rc, rfl, rfl⟩, this, Kept.refl _ _⟩
          case round =>
            obtain ⟨t, ht, rfl, rfl, hgo, hcase, hvo, hkk⟩ := hrel
            obtain ⟨ga, gc, rfl, g1, g2, g3⟩ := hgo.shape
            by_cases htlt : t < 20
            · have HGO := Lib.hid hgo
              have HC := Lib.hid hcase
              have HVO := Lib.hid hvo
              have HKK := Lib.hid hkk
              have HT : Hid (Fits (nk + t + 1) 8) := Lib.hid (fits_of (by omega) (by omega))
              clear hgo hcase hvo hkk g3
              go_wp2_with (first
                | (at_builtin; refine wpList_append_old slInt (v := .slice ga (nk + t) gc) (vx := .slice (some ⟨wr.heap.size, 0, none⟩) 1 1) (news := (#[Value.int .i64 (7000000 + ((S + 20 * k + t : Nat) : Int))]).toList) (m := 1) rfl _ _ rfl rfl rfl (HGO.out.alloc _) (Own.rd (Own.fresh (n := 1) (by rfl) (by decide))) (by simp [Value.oneCell']) HT.out ?_; intro v2 w2 hown2 hk2 hb2 hold2 hcase2; obtain ⟨a2, c2, rfl, _, _, _⟩ := hown2.shape))
              have hlk : ∀ b, (Value.slice ra nk rc).ownBlock = some b → b < wk.heap.size := fun b hb => HROW.out.lt hb
              obtain ⟨q1, q2⟩ := grow_one HVO.out HGO.out HC.out hlk HKK.out.size hk2 hown2 hold2 hcase2
              have q3 := (HKK.out.alloc _).trans' hk2 (fun b hb h1 => by
                rcases HC.out with ⟨a', c', h2, h3⟩ | h3
                · simp only [Value.slice.injEq, true_and] at h2 h3
                  obtain ⟨rfl, rfl⟩ := h2
                  obtain ⟨rfl, rfl⟩ := h3
                  left
                  cases ga with
                  | none => simp [Value.ownBlock] at h1
                  | some x => simpa [Value.ownBlock] using h1
                · exact .inr (h3 b h1))
              have q4 : Own w2 3 1 (.slice a2 (nk + (t + 1)) c2) (nk + (t + 1)) (M ++ cellsOf encI (marks (S + 20 * k) (t + 1))) := by
                rw [marks_succ, cellsOf_encI, List.map_append, ← List.append_assoc, ← cellsOf_encI]
                exact hown2
              have Q2 := Lib.hid q2
              have Q3 := Lib.hid q3
              have Q4 := Lib.hid q4
              have Q1 := Lib.hid q1
              clear q1 q2 q3 q4 hown2 hk2 hb2 hold2 hcase2
              go_roundw
              case rel => exact ⟨_, _, _, ⟨t + 1, by omega, rfl, rfl, Q4.out, Q2.out, Q1.out, Q3.out⟩, by go_num, rfl, by go_num⟩
              case measure => simp [intOf]; omega
            · obtain rfl : t = 20 := by omega
              have hgb : ∀ b, (Value.slice ga (nk + 20) gc).ownBlock = some b → vs[k].ownBlock = some b ∨ wk.heap.size ≤ b := by
                rw [HRV.out]
                intro b h1
                rcases hcase with ⟨a', c', h2, h3⟩ | h3
                · simp only [Value.slice.injEq, true_and] at h2 h3
                  obtain ⟨rfl, rfl⟩ := h2
                  obtain ⟨rfl, rfl⟩ := h3
                  left
                  cases ga with
                  | none => simp [Value.ownBlock] at h1
                  | some x => simpa [Value.ownBlock] using h1
                · exact .inr (h3 b h1)
              have hgv := HG.out.list.frame hkk (fun b h1 h2 => by
                rcases h2 with h2 | h2
                · have := HVK.out b h2
                  have := HG.out.listNew b h1
                  omega
                · have := HG.out.list.lt h1
                  omega)
              obtain ⟨va, vc, rfl, v1, v2, v3⟩ := hgv.shape
              have HGO := Lib.hid hgo
              have HC := Lib.hid hgb
              have HVO := Lib.hid hvo
              have HKK := Lib.hid hkk
              have HGV := Lib.hid hgv
              have HT : Hid (Fits (k + 1) 24) := Lib.hid (fits_of (by omega) (by omega))
              clear hgo hcase hvo hkk g3 hgb hgv v3
              go_wp2_with (first
                | (at_builtin; refine wpList_append slRows (v := .slice va k vc) (vx := .slice (some ⟨wr.heap.size, 0, none⟩) 1 1) (news := (#[Value.slice ga (nk + 20) gc]).toList) (m := 1) rfl _ _ rfl rfl rfl (HGV.out.alloc _) (Own.rd (Own.fresh (n := 1) (by rfl) (by decide))) (by simp [Value.oneCell']) HT.out ?_; intro v2 w2 hown2 hk2 hb2 _; obtain ⟨a2, c2, rfl, _, _, _⟩ := hown2.shape))
              have q1 := HGO.out.alloc
              have q2 := Grown20.step (o := .cells #[Value.slice ga (nk + 20) gc] 22) HG.out hlt hlt' H0.out.apart HVB.out HB.out (by rw [HRV.out]; exact HKK.out)
                (by have := HGO.out; rw [HM.out] at this; rw [← HNK.out, HSS.out] at *; simpa [cellsOf_encI] using this) (by have := HVO.out; rw [HM.out, ← HRV.out] at this; rw [HNK.out] at this; exact this) HC.out hk2 hown2 hb2
              have Q2 := Lib.hid q2
              have q3 := ((HK.out.trans' HKK.out (fun b hb h1 => by
                rcases h1 with h1 | h1
                · exact ⟨k, hlt, by rw [HRV.out]; exact h1⟩
                · have := HB.out; have := HB0.out; omega)).alloc (.cells #[Value.slice ga (nk + 20) gc] 22)).trans' hk2 (fun b hb h1 => by have := HG.out.listNew b h1; have := HB0.out; omega)
              have Q3 := Lib.hid q3
              have Q4 : Hid (B ≤ w2.heap.size) := Lib.hid (by have := HB.out; have := HKK.out.size; have := hk2.size; simp at this; omega)
              clear q1 q2 q3 hown2 hk2 hb2
              go_roundw
              case rel => exact ⟨_, _, _, ⟨k + 1, by omega, rfl, rfl, ⟨_, Q2.out⟩, Q3.out, Q4.out⟩, by go_num, rfl, by go_num⟩
              case measure => simp [intOf]; omega
        · obtain rfl : k = vs.length := by omega
          have hcellV : ∀ i (h : i < vs.length), ∃ g off, la = some ⟨g, off, none⟩ ∧ wr.cell? ⟨g, off + i, none⟩ = some vs[i] := fun i h => by
            obtain ⟨g, off, cap, hla, _, _, hcell, _, _⟩ := HL.out.elt (by omega)
            refine ⟨g, off, by simp only [Value.slice.injEq] at hla; exact hla.1, hK.cell (hcell i vs[i] (by simp [h])) (fun ⟨i, h, hb⟩ => HD.out i h _ hb (by rw [hla]; rfl))⟩
          obtain ⟨va, vc, rfl, v1, v2, v3⟩ := hG.list.shape
          have HG := Lib.hid hG
          have HK := Lib.hid hK
          have HCV := Lib.hid hcellV
          have HUP := Lib.hid upTo_le
          clear hG hK hB hcellV v3
          go_wp2_with fail
          go_loop [3, 10] (fun n i => ∃ k : Nat, k ≤ vs.length ∧ i = .int .i64 k ∧ n = .int .i64 (upTo lens k : Nat)) (fun _ i => vs.length - (intOf i).toNat)
          case atStart => exact ⟨0, Nat.zero_le _, rfl, by simp [upTo]⟩
          case round =>
            obtain ⟨k, hk, rfl, rfl⟩ := hrel
            by_cases hlt : k < vs.length
            · have hlt' : k < lens.length := by have := HE.out; omega
              obtain ⟨g, off, rfl, hc0⟩ := HCV.out k hlt
              have hsz : lens[k] ≤ 17592186043904 := HN.out k hlt'
              have hup := (HS k).out
              have hrow := HG.out.rows k hlt hlt'
              obtain ⟨ra, rc, hrv, r1, r2, r3⟩ := hrow.shape
              rw [hrv] at hc0
              have HRW := Lib.hid hrow
              have HRV := Lib.hid hrv
              have HUS := Lib.hid (upTo_succ hlt')
              obtain ⟨nk, hnk⟩ : ∃ nk, nk = lens[k] := ⟨_, rfl⟩
              have HNK := Lib.hid hnk
              obtain ⟨uk, huk⟩ : ∃ uk, uk = upTo lens k := ⟨_, rfl⟩
              have HUK := Lib.hid huk
              rw [← hnk] at hsz hc0 r1
              rw [← huk] at hup ⊢
              clear hrow hrv hnk huk r3
              go_wp2_with fail
              go_loop [3, 11] (fun n j => ∃ j' : Nat, j' ≤ nk ∧ j = .int .i64 j' ∧ n = .int .i64 ((uk + j' : Nat) : Int)) (fun _ j => nk - (intOf j).toNat)
              case atStart => exact ⟨0, Nat.zero_le _, rfl, by simp⟩
              case round =>
                obtain ⟨j, hj, rfl, rfl⟩ := hrel
                by_cases hjlt : j < nk
                · have hrw := HRW.out
                  rw [HRV.out] at hrw
                  obtain ⟨g2, off2, cap2, hv2, _, _, hcell2, _, _⟩ := hrw.elt (by rw [← HNK.out]; omega)
                  simp only [Value.slice.injEq] at hv2
                  obtain ⟨rfl, _, rfl⟩ := hv2
                  have hc2 : wr.cell? ⟨g2, off2 + j, none⟩ = some (.int .i64 (7000000 + ((uk + j : Nat) : Int))) :=
                    hcell2 j _ (by rw [cellsOf_encI]; simp [marks_length, ← HNK.out, hjlt, marks, encI, HUK.out])
                  clear hrw hcell2
                  go_wp2
                  go_round
                  case rel => exact ⟨j + 1, by omega, by go_num, by go_num⟩
                  case measure => simp [intOf]; omega
                · obtain rfl : j = nk := by omega
                  go_wp2
                  go_round
                  case rel => exact ⟨k + 1, by omega, by go_num, by rw [HUS.out, ← HUK.out, ← HNK.out]⟩
                  case measure => simp [intOf]; omega
            · obtain rfl : k = vs.length := by omega
              rw [HUS.out, ← HSS.out]
              go_wp2_with fail
              go_loop [3, 12] (fun n i => ∃ k : Nat, k ≤ vs.length ∧ i = .int .i64 k ∧ n = .int .i64 ((S + 20 * k : Nat) : Int)) (fun _ i => vs.length - (intOf i).toNat)
              case atStart => exact ⟨0, Nat.zero_le _, rfl, rfl⟩
              case round =>
                obtain ⟨k, hk, rfl, rfl⟩ := hrel
                by_cases hlt : k < vs.length
                · have hlt' : k < lens.length := by have := HE.out; omega
                  have hltg : k < gs.length := by rw [HG.out.len]; exact hlt
                  obtain ⟨g, off, rfl, hc0⟩ := HCV.out k hlt
                  obtain ⟨gg, goff, gcap, hva, _, _, hgcell, _, _⟩ := HG.out.list.elt (by omega)
                  simp only [Value.slice.injEq] at hva
                  obtain ⟨rfl, _, rfl⟩ := hva
                  have hc3 : wr.cell? ⟨gg, goff + k, none⟩ = some gs[k] := hgcell k gs[k] (by simp [hltg])
                  have hsz : lens[k] ≤ 17592186043904 := HN.out k hlt'
                  have hrow := HG.out.rows k hlt hlt'
                  have hgrow := HG.out.own k hltg hlt'
                  obtain ⟨ra, rc, hrv, r1, r2, r3⟩ := hrow.shape
                  obtain ⟨sa, sc, hsv, s1, s2, s3⟩ := hgrow.shape
                  rw [hrv] at hc0
                  rw [hsv] at hc3
                  have HGR := Lib.hid hgrow
                  have HSV := Lib.hid hsv
                  obtain ⟨nk, hnk⟩ : ∃ nk, nk = lens[k] := ⟨_, rfl⟩
                  have HNK := Lib.hid hnk
                  rw [← hnk] at hsz hc0 r1 hc3 s1
                  clear hrow hrv hnk r3 s3 hgcell hgrow hsv
                  go_wp2_with fail
                  go_loop [3, 13] (fun n j => ∃ t : Nat, t ≤ 20 ∧ j = .int .i64 ((nk + t : Nat) : Int) ∧ n = .int .i64 ((S + 20 * k + t : Nat) : Int)) (fun _ j => nk + 20 - (intOf j).toNat)
                  case atStart => exact ⟨0, Nat.zero_le _, rfl, rfl⟩
                  case round =>
                    obtain ⟨t, ht, rfl, rfl⟩ := hrel
                    by_cases htlt : t < 20
                    · have hrw := HGR.out
                      rw [HSV.out] at hrw
                      obtain ⟨g2, off2, cap2, hv2, _, _, hcell2, _, _⟩ := hrw.elt (by omega)
                      simp only [Value.slice.injEq] at hv2
                      obtain ⟨rfl, _, rfl⟩ := hv2
                      have hc2 : wr.cell? ⟨g2, off2 + (nk + t), none⟩ = some (.int .i64 (7000000 + ((S + 20 * k + t : Nat) : Int))) :=
                        hcell2 (nk + t) _ (by
                          rw [cellsOf_encI, HSS.out, HNK.out, List.map_append, List.getElem?_append_right (by simp [marks_length])]
                          simp [marks_length, htlt, marks, encI])
                      clear hrw hcell2
                      go_wp2
                      go_round
                      case rel => exact ⟨t + 1, by omega, by go_num, by go_num⟩
                      case measure => simp [intOf]; omega
                    · obtain rfl : t = 20 := by omega
                      go_wp2
                      go_round
                      case rel => exact ⟨k + 1, by omega, by go_num, by go_num⟩
                      case measure => simp [intOf]; omega
                · obtain rfl : k = vs.length := by omega
                  go_wp2
                  go_ret
                  exact ⟨rfl, HK.out⟩

end Go.Proofs.Ytncloielmfplpaa
