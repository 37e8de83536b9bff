/- RowsApart: lists of lists whose own memory is apart are told so; their places are written over. RowsApart: the walk. What OrderApart has laid aside: lists of ints, lists of lists, all with memory of their own. -/
import Derived.Test.YtncloielmfplpaaIntsApart
import Derived.Test.YtncloielmfplpaaGroupsI
import Derived.ChangeKeysEq
namespace Go.Proofs.Ytncloielmfplpaa
open Go.RowKit
set_option linter.unusedVariables false
set_option linter.unusedSimpArgs false

/-- v is a list of one number: n. -/
def Mk (w : World) (n : Nat) (v : Value) : Prop := ∃ b, v = .slice (some ⟨b, 0, none⟩) 1 1 ∧ w.heap[b]? = some (.cells #[.int .i64 (n : Int)] 3 (0, 0))

/-- The first m of us are lists of the numbers from off on. -/
def Mks (w : World) (off : Nat) (us : List Value) (m : Nat) : Prop := ∀ t u, t < m → us[t]? = some u → Mk w (off + t) u

/-- No block of F holds ints. -/
def NotInt (w : World) (F : Nat → Prop) : Prop := ∀ b, F b → b < w.heap.size → ∀ c fr, w.heap[b]? ≠ some (.cells c 3 fr)

theorem own_notInt {w : World} {e : TypeId} {sz : Nat} {v : Value} {n : Nat} {xs : List Value} (h : Own w e sz v n xs) (he : e ≠ 3) {b : Nat} (hb : v.ownBlock = some b) (c : Array Value) (fr : Nat × Nat) : w.heap[b]? ≠ some (.cells c 3 fr) := by
  rcases h.2 with ⟨rfl, _⟩ | ⟨g, off, cap, cur, rfl, hg, _⟩
  · simp [Value.ownBlock] at hb
  · simp [Value.ownBlock] at hb
    subst hb
    rw [hg]
    simp only [ne_eq, Option.some.injEq, Obj.cells.injEq, not_and]
    exact fun _ h => absurd h he

theorem Mk.frame {w w' : World} {F : Nat → Prop} {n : Nat} {v : Value} (h : Mk w n v) (hk : Kept F w w') (hF : NotInt w F) : Mk w' n v := by
  obtain ⟨b, h1, h2⟩ := h
  exact ⟨b, h1, (hk.block b (heap_lt h2) (fun hf => hF b hf (heap_lt h2) _ _ h2)).trans h2⟩

theorem Mks.frame {w w' : World} {F : Nat → Prop} {off m : Nat} {us : List Value} (h : Mks w off us m) (hk : Kept F w w') (hF : NotInt w F) : Mks w' off us m :=
  fun t u ht hu => (h t u ht hu).frame hk hF

theorem NotInt.own {w : World} {e : TypeId} {sz : Nat} {v : Value} {n : Nat} {xs : List Value} (h : Own w e sz v n xs) (he : e ≠ 3) : NotInt w (fun b => v.ownBlock = some b) :=
  fun _ hb _ c fr => own_notInt h he hb c fr

/-- The rows: vs, their lengths lens, no two with memory in common. -/
structure Rows0R (w : World) (vs : List Value) (lens : List Nat) : Prop where
  len : vs.length = lens.length
  own : ∀ i (h : i < vs.length), ∃ us : List Value, us.length = lens[i]'(by omega) ∧ Own w 22 1 vs[i] us.length us
  apart : ∀ i j (hi : i < vs.length) (hj : j < vs.length), i ≠ j → ∀ b, vs[i].ownBlock = some b → vs[j].ownBlock ≠ some b

/-- The rows ahead of i hold their marks, and row i its first j. -/
def MarkedR (w : World) (vs : List Value) (lens : List Nat) (i j : Nat) : Prop :=
  ∀ i' (h : i' < vs.length) (h' : i' < lens.length), ∃ us : List Value, us.length = lens[i'] ∧ Own w 22 1 vs[i'] us.length us ∧ (i' < i → Mks w (upTo lens i') us lens[i']) ∧ (i' = i → Mks w (upTo lens i) us j)

theorem MarkedR.next_of {w : World} {vs : List Value} {lens : List Nat} {i n : Nat} (h : MarkedR w vs lens i n) (hi : i < lens.length) (hn : n = lens[i]) : MarkedR w vs lens (i + 1) 0 := by
  intro i' h1 h2
  obtain ⟨us, h3, h4, h5, h6⟩ := h i' h1 h2
  refine ⟨us, h3, h4, fun hlt => ?_, fun _ t u ht => absurd ht (Nat.not_lt_zero _)⟩
  rcases Nat.lt_or_ge i' i with hl | hl
  · exact h5 hl
  · obtain rfl : i' = i := by omega
    have := h6 rfl
    rw [hn] at this
    exact this

theorem MarkedR.step {w : World} {vs : List Value} {lens : List Nat} {i j g off n c : Nat} (hi : i < vs.length) (hi' : i < lens.length) (hv : vs[i] = .slice (some ⟨g, off, none⟩) n c) (hj : j < lens[i]) (h : MarkedR w vs lens i j)
    (hap : ∀ i' (h : i' < vs.length), i ≠ i' → vs[i'].ownBlock ≠ some g) :
    MarkedR ((w.alloc (.cells #[.int .i64 ((upTo lens i + j : Nat) : Int)] 3)).setCell ⟨g, off + j, none⟩ (.slice (some ⟨w.heap.size, 0, none⟩) 1 1)) vs lens i (j + 1) := by
  obtain ⟨o, ho⟩ : ∃ o, o = Obj.cells #[.int .i64 ((upTo lens i + j : Nat) : Int)] 3 := ⟨_, rfl⟩
  have hnew : (w.alloc o).heap[w.heap.size]? = some o := by show (w.heap.push _)[w.heap.size]? = _; simp
  rw [← ho]
  rw [ho] at hnew
  have K1 : Kept (fun _ => False) w (w.alloc o) := (Kept.refl _ w).alloc o
  have N1 : NotInt w (fun _ => False) := fun _ h => h.elim
  obtain ⟨us0, h30, h40, _, _⟩ := h i hi hi'
  have N2 : NotInt (w.alloc o) (fun b => b = g) := fun b hb _ c fr => own_notInt (h40.alloc o) (by decide) (by rw [hv, hb]; simp [Value.ownBlock]) c fr
  have K2 : Kept (fun b => b = g) (w.alloc o) ((w.alloc o).setCell ⟨g, off + j, none⟩ (.slice (some ⟨w.heap.size, 0, none⟩) 1 1)) := (Kept.refl (fun b => b = g) (w.alloc o)).setCell (p := ⟨g, off + j, none⟩) (fun _ => rfl) _
  have hM : ∀ {off' : Nat} {us : List Value} {m : Nat}, Mks w off' us m → Mks ((w.alloc o).setCell ⟨g, off + j, none⟩ (.slice (some ⟨w.heap.size, 0, none⟩) 1 1)) off' us m := fun h => (h.frame K1 N1).frame K2 N2
  intro i' h1 h2
  obtain ⟨us, h3, h4, h5, h6⟩ := h i' h1 h2
  by_cases he : i' = i
  · subst he
    have hY := h6 rfl
    obtain ⟨a', c', hs, _⟩ := h4.shape
    have h4' := h4.alloc o
    rw [hv] at h4' hs
    simp only [Value.slice.injEq] at hs
    obtain ⟨_, rfl, _⟩ := hs
    refine ⟨us.set j (.slice (some ⟨w.heap.size, 0, none⟩) 1 1), by simp [h3], ?_, fun h => absurd h (Nat.lt_irrefl _), fun _ t u ht hu => ?_⟩
    · have := h4'.setAt (j := j) (by omega) (.slice (some ⟨w.heap.size, 0, none⟩) 1 1)
      rw [hv, List.length_set]
      exact this
    · rw [List.getElem?_set] at hu
      split at hu
      · rename_i e
        subst e
        split at hu
        · simp only [Option.some.injEq] at hu
          subst hu
          exact (show Mk (w.alloc o) _ _ from ⟨w.heap.size, rfl, by rw [ho]; exact hnew⟩).frame K2 N2
        · cases hu
      · exact hM hY t u (by omega) hu
  · exact ⟨us, h3, (h4.alloc o).setCell (hap i' h1 (fun e => he e.symm)) _, fun h => hM (h5 h), fun e => absurd e he⟩

/-- All rows hold their marks. -/
def AllMarkedR (w : World) (vs : List Value) (lens : List Nat) : Prop :=
  ∀ i (h : i < vs.length) (h' : i < lens.length), ∃ us : List Value, us.length = lens[i] ∧ Own w 22 1 vs[i] us.length us ∧ Mks w (upTo lens i) us lens[i]

theorem MarkedR.all {w : World} {vs : List Value} {lens : List Nat} (h : MarkedR w vs lens vs.length 0) : AllMarkedR w vs lens := by
  intro i h1 h2
  obtain ⟨us, h3, h4, h5, _⟩ := h i h1 h2
  exact ⟨us, h3, h4, h5 h1⟩

/-- Of the first k rows the grown ones: gs, in the list gv. -/
structure GrownR (w : World) (B : Nat) (vs : List Value) (lens : List Nat) (gv : Value) (gs : List Value) (k : Nat) : Prop where
  len : gs.length = k
  list : Own w 29 1 gv k gs
  listNew : ∀ b, gv.ownBlock = some b → B ≤ b
  own : ∀ i (h : i < gs.length) (h' : i < lens.length), ∃ us ns : List Value, us.length = lens[i] ∧ ns.length = 20 ∧ Own w 22 1 gs[i] (lens[i] + 20) (us ++ ns) ∧ Mks w (lens.sum + 20 * i) ns 20
  blocks : ∀ i (h : i < gs.length) (h' : i < vs.length) b, gs[i].ownBlock = some b → vs[i].ownBlock = some b ∨ B ≤ b
  notList : ∀ i (h : i < gs.length) b, gs[i].ownBlock = some b → gv.ownBlock ≠ some b
  rows : AllMarkedR w vs lens

theorem GrownR.step {wk wx wy : World} {B : Nat} {vs : List Value} {lens : List Nat} {gv gv' g : Value} {gs : List Value} {k : Nat} {o : Obj} (G : GrownR wk B vs lens gv gs k) (hk : k < vs.length) (hk' : k < lens.length)
    (hap : ∀ i j (hi : i < vs.length) (hj : j < vs.length), i ≠ j → ∀ b, vs[i].ownBlock = some b → vs[j].ownBlock ≠ some b) (hvB : ∀ i (h : i < vs.length) b, vs[i].ownBlock = some b → b < B) (hB : B ≤ wk.heap.size)
    (K1 : Kept (fun b => vs[k].ownBlock = some b ∨ wk.heap.size ≤ b) wk wx) (hg : ∃ us ns : List Value, us.length = lens[k] ∧ ns.length = 20 ∧ Own wx 22 1 g (lens[k] + 20) (us ++ ns) ∧ Mks wx (lens.sum + 20 * k) ns 20)
    (hvk : ∃ us : List Value, us.length = lens[k] ∧ Own wx 22 1 vs[k] us.length us ∧ Mks wx (upTo lens k) us lens[k]) (hgb : ∀ b, g.ownBlock = some b → vs[k].ownBlock = some b ∨ wk.heap.size ≤ b)
    (K2 : Kept (fun b => gv.ownBlock = some b) (wx.alloc o) wy) (hgv : Own wy 29 1 gv' (k + 1) (gs ++ [g])) (hb : ∀ b, gv'.ownBlock = some b → gv.ownBlock = some b ∨ (wx.alloc o).heap.size ≤ b) :
    GrownR wy B vs lens gv' (gs ++ [g]) (k + 1) := by
  have hvN : ∀ i (h : i < vs.length) b, vs[i].ownBlock = some b → gv.ownBlock ≠ some b := fun i h b h1 h2 => by
    have := hvB i h b h1
    have := G.listNew b h2
    omega
  have s1 := K1.size
  have a1 : ∀ {v : Value} {n : Nat} {xs : List Value}, Own wx 22 1 v n xs → (∀ b, v.ownBlock = some b → gv.ownBlock ≠ some b) → Own wy 22 1 v n xs :=
    fun h hd => (h.alloc o).frame K2 (fun b h1 h2 => hd b h1 h2)
  have N1 : NotInt wk (fun b => vs[k].ownBlock = some b ∨ wk.heap.size ≤ b) := by
    obtain ⟨us, _, h4, _⟩ := G.rows k hk hk'
    rintro b (hb | hb) hlt c fr
    · exact own_notInt h4 (by decide) hb c fr
    · omega
  have hgvx : Own wx 29 1 gv k gs := G.list.frame K1 (fun b h1 h2 => by
    rcases h2 with h2 | h2
    · exact hvN k hk b h2 h1
    · have := G.list.lt h1; omega)
  have N2 : NotInt (wx.alloc o) (fun b => gv.ownBlock = some b) := NotInt.own (hgvx.alloc o) (by decide)
  have m1 : ∀ {off : Nat} {us : List Value} {m : Nat}, Mks wx off us m → Mks wy off us m := fun h => (h.frame ((Kept.refl (fun _ => False) wx).alloc o) (fun _ h => h.elim)).frame K2 N2
  have hgN : ∀ b, g.ownBlock = some b → gv.ownBlock ≠ some b := fun b h1 h2 => by
    rcases hgb b h1 with h | h
    · exact hvN k hk b h h2
    · have := G.list.lt h2
      omega
  refine ⟨by simp [G.len], hgv, ?_, ?_, ?_, ?_, ?_⟩
  · intro b h
    rcases hb b h with h | h
    · exact G.listNew b h
    · simp at h
      omega
  · intro i h h'
    rw [List.length_append, List.length_singleton, G.len] at h
    by_cases hi : i < gs.length
    · rw [List.getElem_append_left hi]
      obtain ⟨us, ns, e1, e2, e3, e4⟩ := G.own i hi h'
      refine ⟨us, ns, e1, e2, a1 (e3.frame K1 ?_) (fun b h1 => G.notList i hi b h1), m1 (e4.frame K1 N1)⟩
      rintro b h1 (h2 | h2)
      · rcases G.blocks i hi (by rw [G.len] at hi; omega) b h1 with h3 | h3
        · exact hap i k (by rw [G.len] at hi; omega) hk (by rw [G.len] at hi; omega) b h3 h2
        · have := hvB k hk b h2
          omega
      · have := e3.lt h1
        omega
    · obtain rfl : i = k := by rw [G.len] at hi; omega
      have e : (gs ++ [g])[i]'(by simp [G.len]) = g := by simp [G.len]
      rw [e]
      obtain ⟨us, ns, e1, e2, e3, e4⟩ := hg
      exact ⟨us, ns, e1, e2, a1 e3 hgN, m1 e4⟩
  · intro i h h' b h1
    rw [List.length_append, List.length_singleton, G.len] at h
    by_cases hi : i < gs.length
    · rw [List.getElem_append_left hi] at h1
      exact G.blocks i hi h' b h1
    · obtain rfl : i = k := by rw [G.len] at hi; omega
      have e : (gs ++ [g])[i]'(by simp [G.len]) = g := by simp [G.len]
      rw [e] at h1
      exact (hgb b h1).imp id (fun h => Nat.le_trans hB h)
  · intro i h b h1 h2
    have hlt : b < wx.heap.size := by
      rw [List.length_append, List.length_singleton, G.len] at h
      by_cases hi : i < gs.length
      · rw [List.getElem_append_left hi] at h1
        obtain ⟨us, ns, e1, e2, e3, e4⟩ := G.own i hi (by rw [G.len] at hi; omega)
        have := e3.lt h1
        omega
      · obtain rfl : i = k := by rw [G.len] at hi; omega
        have e : (gs ++ [g])[i]'(by simp [G.len]) = g := by simp [G.len]
        rw [e] at h1
        obtain ⟨us, ns, e1, e2, e3, e4⟩ := hg
        exact e3.lt h1
    rcases hb b h2 with h3 | h3
    · rw [List.length_append, List.length_singleton, G.len] at h
      by_cases hi : i < gs.length
      · rw [List.getElem_append_left hi] at h1
        exact G.notList i hi b h1 h3
      · obtain rfl : i = k := by rw [G.len] at hi; omega
        have e : (gs ++ [g])[i]'(by simp [G.len]) = g := by simp [G.len]
        rw [e] at h1
        exact hgN b h1 h3
    · simp at h3
      omega
  · intro i h h'
    by_cases hi : i = k
    · subst hi
      obtain ⟨us, e1, e2, e3⟩ := hvk
      exact ⟨us, e1, a1 e2 (fun b h1 => hvN i h b h1), m1 e3⟩
    · obtain ⟨us, e1, e2, e3⟩ := G.rows i h h'
      refine ⟨us, e1, a1 (e2.frame K1 ?_) (fun b h1 => hvN i h b h1), m1 (e3.frame K1 N1)⟩
      rintro b h1 (h2 | h2)
      · exact hap i k h hk hi b h1 h2
      · have := hvB i h b h1
        omega

end Go.Proofs.Ytncloielmfplpaa

namespace Go.Proofs.Ytncloielmfplpaa
open Go.RowKit
set_option linter.unusedVariables false
set_option linter.unusedSimpArgs false

theorem frozen_alloc {w : World} {b i : Nat} (hb : b < w.heap.size) (o : Obj) : (w.alloc o).frozen? ⟨b, i, none⟩ = w.frozen? ⟨b, i, none⟩ := by
  unfold World.frozen?
  dsimp only
  rw [Below.heap_alloc _ _ _ hb]

theorem rd_fresh2 {w : World} {o : Obj} {e : TypeId} {v : Value} : Rd ((w.alloc o).alloc (.cells #[v] e)) 1 (.slice (some ⟨w.heap.size + 1, 0, none⟩) 1 1) 1 [v] := by
  have := Own.rd (Own.fresh (w := w.alloc o) (e := e) (sz := 1) (n := 1) (cs := #[v]) (by rfl) (by decide))
  rw [World.size_alloc] at this
  exact this

theorem slRows3 : SlT Try.prog 34 29 (.slice none 0 0) 1 24 := SlT.mk' Try.underlying34 (by kernel_rfl) rfl (by decide) (by decide)

set_option maxRecDepth 100000 in
set_option maxHeartbeats 4000000 in
theorem rowsApart (w : World) (lv : Value) (vs : List Value) (lens : List Nat) (hl : Own w 29 1 lv vs.length vs) (h0 : Rows0R w vs lens) (hd : ∀ i (h : i < vs.length) b, vs[i].ownBlock = some b → lv.ownBlock ≠ some b)
    (hL : vs.length ≤ 100000) (hlen : ∀ i (h : i < lens.length), lens[i] ≤ 100000) (hsum : lens.sum ≤ 4611686018427387904) :
    Calls Try.prog 20 #[lv] w fun e w' => e = .returned (.bool true) ∧ Kept (fun b => ∃ i, ∃ h : i < vs.length, vs[i].ownBlock = some b) w w' := by
  obtain ⟨la, lc, rfl, l1, l2, l3⟩ := hl.shape
  have HL := Lib.hid hl
  have H0 := Lib.hid h0
  have HD := Lib.hid hd
  have HN := Lib.hid hlen
  have L3 := Lib.hid l3
  have HE := Lib.hid h0.len
  have HS : ∀ i, Hid (upTo lens i ≤ 4611686018427387904) := fun i => Lib.hid (Nat.le_trans (upTo_le lens i) hsum)
  unfold maxLen at l2
  clear hl h0 hd hlen l3
  go_enter Try.func20, Try.ntmps20
  go_wp2_with fail
  go_loopw [3, 4] (fun n i wr => ∃ k : Nat, k ≤ vs.length ∧ i = .int .i64 k ∧ n = .int .i64 (upTo lens k : Nat) ∧ MarkedR wr vs lens k 0 ∧ Kept (fun b => ∃ i, ∃ h : i < vs.length, vs[i].ownBlock = some b) w wr) (fun _ i _ => vs.length - (intOf i).toNat)
  case atStart =>
    refine ⟨0, Nat.zero_le _, rfl, by simp [upTo], ?_, Kept.refl _ _⟩
    intro i' h1 h2
    obtain ⟨Y, h3, h4⟩ := H0.out.own i' h1
    exact ⟨Y, h3, h4, fun h => by omega, fun _ t u ht => absurd ht (Nat.not_lt_zero _)⟩
  case round =>
    obtain ⟨k, hk, rfl, rfl, hM, hK⟩ := hrel
    by_cases hlt : k < vs.length
    · have hlt' : k < lens.length := by have := HE.out; omega
      obtain ⟨g, off, cap, hla, _, _, hcell, _, _⟩ := HL.out.elt (by omega)
      have hrow : ∀ wx : World, Kept (fun b => ∃ i, ∃ h : i < vs.length, vs[i].ownBlock = some b) w wx → wx.cell? ⟨g, off + k, none⟩ = some vs[k] := fun wx hx =>
        hx.cell (hcell k vs[k] (by simp [hlt])) (fun ⟨i, h, hb⟩ => HD.out i h _ hb (by rw [hla]; rfl))
      obtain ⟨Y, hY1, hY2⟩ := H0.out.own k hlt
      obtain ⟨ra, rc, hrv, r1, r2, r3⟩ := hY2.shape
      simp only [Value.slice.injEq] at hla
      obtain ⟨rfl, _, rfl⟩ := hla
      rw [hY1] at hrv r1 r3
      have hsz : lens[k] ≤ 100000 := HN.out k hlt'
      have hup := (HS k).out
      rw [hrv] at hrow
      have HROW := Lib.hid hrow
      have HRV := Lib.hid hrv
      have R3 := Lib.hid r3
      have HM := Lib.hid hM
      have HK := Lib.hid hK
      obtain ⟨nk, hnk⟩ : ∃ nk, nk = lens[k] := ⟨_, rfl⟩
      have HNK := Lib.hid hnk
      rw [← hnk] at hsz HROW r1 HRV R3
      obtain ⟨uk, huk⟩ : ∃ uk, uk = upTo lens k := ⟨_, rfl⟩
      have HUK := Lib.hid huk
      rw [← huk] at hup ⊢
      clear hM hK hrow hcell hrv r3 hY1 hY2 Y hnk huk
      go_wp2_with fail
      go_loopw [3, 5] (fun n j wx => ∃ j' : Nat, j' ≤ nk ∧ j = .int .i64 j' ∧ n = .int .i64 ((uk + j' : Nat) : Int) ∧ MarkedR wx vs lens k j' ∧ Kept (fun b => ∃ i, ∃ h : i < vs.length, vs[i].ownBlock = some b) w wx) (fun _ j _ => nk - (intOf j).toNat)
      case atStart => exact ⟨0, Nat.zero_le _, rfl, by simp, HM.out, HK.out⟩
      case round =>
        obtain ⟨j, hj, rfl, rfl, hM, hK⟩ := hrel
        have hc1 := HROW.out _ hK
        have HM2 := Lib.hid hM
        have HK2 := Lib.hid hK
        clear hM hK
        by_cases hjlt : j < nk
        · cases ra with
          | none => exact absurd (R3.out rfl).1 (by omega)
          | some rad =>
            obtain ⟨Y, hY1, hY2, _, _⟩ := HM2.out k hlt hlt'
            have hY3 := hY2
            rw [HRV.out] at hY3
            obtain ⟨g2, off2, cap2, hv2, _, _, hcell2, hfr2, hg2⟩ := hY3.elt (by rw [hY1, ← HNK.out]; omega)
            simp only [Value.slice.injEq, Option.some.injEq] at hv2
            obtain ⟨rfl, _, rfl⟩ := hv2
            obtain ⟨y0, hc2⟩ : ∃ y0, (wr.alloc (.cells #[.int .i64 ((uk : Int) + (j : Int))] 3)).cell? ⟨g2, off2 + j, none⟩ = some y0 :=
              ⟨Y[j]'(by rw [hY1, ← HNK.out]; exact hjlt), ((Kept.refl (fun _ => False) wr).alloc _).cell (hcell2 j _ (by simp [hY1, ← HNK.out, hjlt])) id⟩
            have hf2 : (wr.alloc (.cells #[.int .i64 ((uk : Int) + (j : Int))] 3)).frozen? ⟨g2, off2 + j, none⟩ = false := by
              have hfr := hfr2 (off2 + j)
              rw [frozen_alloc hg2]; exact hfr
            have HST := Lib.hid (HM2.out.step hlt hlt' HRV.out (by rw [← HNK.out]; exact hjlt) (fun i' hi' hne hb => H0.out.apart k i' hlt hi' hne g2 (by rw [HRV.out]; rfl) hb))
            have HKT := Lib.hid ((HK2.out.alloc (.cells #[.int .i64 ((upTo lens k + j : Nat) : Int)] 3)).setCell (p := ⟨g2, off2 + j, none⟩) (fun _ => ⟨k, hlt, by rw [HRV.out]; rfl⟩) (.slice (some ⟨wr.heap.size, 0, none⟩) 1 1))
            rw [← HUK.out, Int.natCast_add] at HST HKT
            clear hY1 hY2 hY3 hcell2 hfr2 hg2
            go_wp2
            go_roundw
            case rel => exact ⟨j + 1, by omega, by go_num, by go_num, HST.out, HKT.out⟩
            case measure => simp [intOf]; omega
        · obtain rfl : j = nk := by omega
          have HMN := Lib.hid (HM2.out.next_of hlt' HNK.out)
          have HUS := Lib.hid (upTo_succ hlt')
          rw [← HUK.out, ← HNK.out] at HUS
          go_wp2
          go_roundw
          case rel => exact ⟨k + 1, by omega, by go_num, by rw [HUS.out], HMN.out, HK2.out⟩
          case measure => simp [intOf]; omega
    · obtain rfl : k = vs.length := by omega
      have hlen0 : vs.length = lens.length := HE.out
      have hS : upTo lens vs.length = lens.sum := by rw [hlen0, upTo, List.take_length]
      have hvB : ∀ i (h : i < vs.length) b, vs[i].ownBlock = some b → b < wr.heap.size := fun i h b hb => (by obtain ⟨us, _, h4, _⟩ := hM.all i h (by omega); exact h4.lt hb)
      have hG : GrownR wr wr.heap.size vs lens (.slice none 0 0) [] 0 :=
        ⟨rfl, Own.nil _ _ _, fun b h => by simp [Value.ownBlock] at h, fun i h => absurd h (Nat.not_lt_zero _), fun i h => absurd h (Nat.not_lt_zero _), fun i h => absurd h (Nat.not_lt_zero _), hM.all⟩
      obtain ⟨B, hBw⟩ : ∃ B, B = wr.heap.size := ⟨_, rfl⟩
      rw [← hBw] at hvB hG
      have hB0 : w.heap.size ≤ B := by rw [hBw]; exact hK.size
      have hB1 : B ≤ wr.heap.size := by rw [hBw]; exact Nat.le_refl _
      obtain ⟨S, hSS⟩ : ∃ S, S = lens.sum := ⟨_, rfl⟩
      have hup := (HS vs.length).out
      rw [hS, ← hSS] at hup
      rw [hS, ← hSS]
      have HVB := Lib.hid hvB
      have HG := Lib.hid hG
      have HK := Lib.hid hK
      have HSS := Lib.hid hSS
      have HB1 := Lib.hid hB1
      have HB0 := Lib.hid hB0
      have HUS := Lib.hid hS
      clear hM hK hS hvB hG hBw hB1 hB0 hSS hlen0
      go_wp2_with fail
      go_loopw [3, 6, 7] (fun n gv i wx => ∃ k gs, k ≤ vs.length ∧ i = .int .i64 (k : Nat) ∧ n = .int .i64 ((S + 20 * k : Nat) : Int) ∧ GrownR wx B vs lens gv gs k ∧ Kept (fun b => ∃ i, ∃ h : i < vs.length, vs[i].ownBlock = some b) w wx ∧ B ≤ wx.heap.size) (fun _ _ i _ => vs.length - (intOf i).toNat)
      case atStart => exact ⟨0, [], Nat.zero_le _, rfl, rfl, HG.out, HK.out, HB1.out⟩
      case round =>
        obtain ⟨k, gs, hk, rfl, rfl, hG, hK, hB⟩ := hrel
        by_cases hlt : k < vs.length
        · have hlt' : k < lens.length := by have := HE.out; omega
          obtain ⟨g, off, cap, hla, _, _, hcell, _, _⟩ := HL.out.elt (by omega)
          have hc0 : wr.cell? ⟨g, off + k, none⟩ = some vs[k] :=
            hK.cell (hcell k vs[k] (by simp [hlt])) (fun ⟨i, h, hb⟩ => HD.out i h _ hb (by rw [hla]; rfl))
          simp only [Value.slice.injEq] at hla
          obtain ⟨rfl, _, rfl⟩ := hla
          obtain ⟨M, hMl0, hrow, hMk⟩ := hG.rows k hlt hlt'
          obtain ⟨nk, hnk⟩ : ∃ nk, nk = lens[k] := ⟨_, rfl⟩
          have hsz : lens[k] ≤ 100000 := HN.out k hlt'
          have hMl : M.length = nk := by rw [hMl0, hnk]
          rw [hMl] at hrow
          rw [← hnk] at hsz hMk
          obtain ⟨ra, rc, hrv, r1, r2, r3⟩ := hrow.shape
          have hvkB := HVB.out k hlt
          rw [hrv] at hc0 hrow hvkB
          have HG := Lib.hid hG
          have HK := Lib.hid hK
          have HRV := Lib.hid hrv
          have HNK := Lib.hid hnk
          have HML := Lib.hid hMl
          have HMK := Lib.hid hMk
          have HROW := Lib.hid hrow
          have HVK := Lib.hid hvkB
          have HB := Lib.hid hB
          obtain ⟨wk, hwk⟩ : ∃ wk, wk = wr := ⟨_, rfl⟩
          rw [← hwk] at HG HK HROW HB HMK
          have HWK := Lib.hid hwk
          clear hG hK hrv hnk hcell hrow r3 hMl hvkB hB hwk hMk hMl0
          go_wp2_with fail
          go_loopw [3, 8, 9] (fun n gg j wx => ∃ t : Nat, t ≤ 20 ∧ j = .int .i64 t ∧ n = .int .i64 ((S + 20 * k + t : Nat) : Int) ∧ ∃ ga gc, gg = .slice ga (nk + t) gc ∧
              Hid (∃ N : List Value, N.length = t ∧ Own wx 22 1 gg (nk + t) (M ++ N) ∧ Mks wx (S + 20 * k) N t ∧ Mks wx (upTo lens k) M nk ∧ InOrNew (.slice ra nk rc) gg nk t wk.heap.size ∧
              Own wx 22 1 (.slice ra nk rc) nk M ∧ Kept (fun b => (Value.slice ra nk rc).ownBlock = some b ∨ wk.heap.size ≤ b) wk wx)) (fun _ _ j _ => 20 - (intOf j).toNat)
          case atStart =>
            have h1 := HROW.out
            have h2 := HMK.out
            rw [HWK.out] at h1 h2
            rw [HWK.out]
            exact ⟨0, Nat.zero_le _, rfl, rfl, ra, rc, rfl, Lib.hid ⟨[], rfl, by simpa using h1, fun t u ht => absurd ht (Nat.not_lt_zero _), h2, .inl ⟨ra, rc, rfl, rfl⟩, h1, Kept.refl _ _⟩⟩
          case round =>
            obtain ⟨t, ht, rfl, rfl, ga, gc, rfl, hH⟩ := hrel
            by_cases htlt : t < 20
            · obtain ⟨N, hNl, hgo, hNk, hMk, hcase, hvo, hkk⟩ := hH.out
              have HNL := Lib.hid hNl
              have HGO := Lib.hid hgo
              have HC := Lib.hid hcase
              have HVO := Lib.hid hvo
              have HKK := Lib.hid hkk
              have HMM := Lib.hid (And.intro hNk hMk)
              have HT : Hid (Fits (nk + t + 1) 24) := Lib.hid (fits_of (by omega) (by omega))
              clear hgo hcase hvo hkk hNk hMk hH hNl
              go_wp2_with (first
                | (at_builtin; refine wpList_append_old slRows (v := .slice ga (nk + t) gc) (vx := .slice (some ⟨wr.heap.size + 1, 0, none⟩) 1 1) (news := [.slice (some ⟨wr.heap.size, 0, none⟩) 1 1]) (m := 1) rfl _ _ rfl rfl rfl ((HGO.out.alloc _).alloc _) rd_fresh2 (by simp [Value.oneCell']) HT.out ?_; intro v2 w2 hown2 hk2 hb2 hold2 hcase2; obtain ⟨a2, c2, rfl, _, _, _⟩ := hown2.shape))
              have Q : Hid (∃ N : List Value, N.length = t + 1 ∧ Own w2 22 1 (.slice a2 (nk + (t + 1)) c2) (nk + (t + 1)) (M ++ N) ∧ Mks w2 (S + 20 * k) N (t + 1) ∧ Mks w2 (upTo lens k) M nk ∧ InOrNew (.slice ra nk rc) (.slice a2 (nk + (t + 1)) c2) nk (t + 1) wk.heap.size ∧
                  Own w2 22 1 (.slice ra nk rc) nk M ∧ Kept (fun b => (Value.slice ra nk rc).ownBlock = some b ∨ wk.heap.size ≤ b) wk w2) := Lib.hid (by
                obtain ⟨o1, ho1⟩ : ∃ o, o = Obj.cells #[.int .i64 ((S : Int) + 20 * (k : Int) + (t : Int))] 3 := ⟨_, rfl⟩
                have ez : ((S + 20 * k + t : Nat) : Int) = (S : Int) + 20 * (k : Int) + (t : Int) := by omega
                have hnew : (wr.alloc o1).heap[wr.heap.size]? = some o1 := by show (wr.heap.push _)[wr.heap.size]? = _; simp
                have hlk : ∀ b, (Value.slice ra nk rc).ownBlock = some b → b < wk.heap.size := fun b hb => HROW.out.lt hb
                rw [← ho1] at hk2 hb2 hcase2
                have hs : wk.heap.size ≤ (wr.alloc o1).heap.size := by have := HKK.out.size; simp; omega
                obtain ⟨q1, q2⟩ := grow_one (HVO.out.alloc o1) (HGO.out.alloc o1) HC.out hlk hs hk2 hown2 hold2 hcase2
                have hni : ∀ o, NotInt ((wr.alloc o1).alloc o) (fun b => (Value.slice ga (nk + t) gc).ownBlock = some b) := fun o => NotInt.own ((HGO.out.alloc o1).alloc o) (by decide)
                have hm : ∀ {off : Nat} {us : List Value} {m : Nat}, Mks (wr.alloc o1) off us m → Mks w2 off us m := fun h => (h.frame ((Kept.refl (fun _ => False) _).alloc _) (fun _ h => h.elim)).frame hk2 (hni _)
                have hm0 : ∀ {off : Nat} {us : List Value} {m : Nat}, Mks wr off us m → Mks w2 off us m := fun h => hm (h.frame ((Kept.refl (fun _ => False) _).alloc _) (fun _ h => h.elim))
                have hmk : Mk (wr.alloc o1) (S + 20 * k + t) (.slice (some ⟨wr.heap.size, 0, none⟩) 1 1) := ⟨_, rfl, by rw [hnew, ho1, ez]⟩
                refine ⟨N ++ [.slice (some ⟨wr.heap.size, 0, none⟩) 1 1], by simp [HNL.out], by rw [← List.append_assoc]; exact hown2, fun t' u ht' hu => ?_, hm0 HMM.out.2, q2, q1, ?_⟩
                · by_cases h1 : t' < t
                  · rw [List.getElem?_append_left (by rw [HNL.out]; exact h1)] at hu
                    exact hm0 HMM.out.1 t' u h1 hu
                  · obtain rfl : t' = t := by omega
                    rw [List.getElem?_append_right (by rw [HNL.out]; exact Nat.le_refl _), HNL.out, Nat.sub_self] at hu
                    simp only [List.getElem?_cons_zero, Option.some.injEq] at hu
                    subst hu
                    exact (hmk.frame ((Kept.refl (fun _ => False) _).alloc _) (fun _ h => h.elim)).frame hk2 (hni _)
                · exact ((HKK.out.alloc o1).alloc _).trans' hk2 (fun b hb h1 => by
                    rcases HC.out with ⟨a', c', h2, h3⟩ | h3
                    · simp only [Value.slice.injEq, true_and] at h2 h3
                      obtain ⟨rfl, rfl⟩ := h2
                      obtain ⟨rfl, rfl⟩ := h3
                      left
                      cases ga with
                      | none => simp [Value.ownBlock] at h1
                      | some x => simpa [Value.ownBlock] using h1
                    · exact .inr (h3 b h1)))
              clear hown2 hk2 hb2 hold2 hcase2
              go_roundw
              case rel => exact ⟨t + 1, by omega, by go_num, by go_num, a2, c2, rfl, Q⟩
              case measure => simp [intOf]; omega
            · obtain rfl : t = 20 := by omega
              obtain ⟨N, hNl, hgo, hNk, hMk, hcase, hvo, hkk⟩ := hH.out
              have hgb : ∀ b, (Value.slice ga (nk + 20) gc).ownBlock = some b → vs[k].ownBlock = some b ∨ wk.heap.size ≤ b := by
                rw [HRV.out]
                intro b h1
                rcases hcase with ⟨a', c', h2, h3⟩ | h3
                · simp only [Value.slice.injEq, true_and] at h2 h3
                  obtain ⟨rfl, rfl⟩ := h2
                  obtain ⟨rfl, rfl⟩ := h3
                  left
                  cases ga with
                  | none => simp [Value.ownBlock] at h1
                  | some x => simpa [Value.ownBlock] using h1
                · exact .inr (h3 b h1)
              have hgv := HG.out.list.frame hkk (fun b h1 h2 => by
                rcases h2 with h2 | h2
                · have := HVK.out b h2
                  have := HG.out.listNew b h1
                  omega
                · have := HG.out.list.lt h1
                  omega)
              obtain ⟨va, vc, rfl, v1, v2, v3⟩ := hgv.shape
              have HGO := Lib.hid hgo
              have HC := Lib.hid hgb
              have HVO := Lib.hid hvo
              have HKK := Lib.hid hkk
              have HGV := Lib.hid hgv
              have HMM := Lib.hid (And.intro hNl (And.intro hNk hMk))
              have HT : Hid (Fits (k + 1) 24) := Lib.hid (fits_of (by omega) (by omega))
              clear hgo hcase hvo hkk hgb hgv v3 hNl hNk hMk hH
              go_wp2_with (first
                | (at_builtin; refine wpList_append slRows3 (v := .slice va k vc) (vx := .slice (some ⟨wr.heap.size, 0, none⟩) 1 1) (news := (#[Value.slice ga (nk + 20) gc]).toList) (m := 1) rfl _ _ rfl rfl rfl (HGV.out.alloc _) (Own.rd (Own.fresh (n := 1) (by rfl) (by decide))) (by simp [Value.oneCell']) HT.out ?_; intro v2 w2 hown2 hk2 hb2 _; obtain ⟨a2, c2, rfl, _, _, _⟩ := hown2.shape))
              have q2 := GrownR.step (o := .cells #[Value.slice ga (nk + 20) gc] 29) HG.out hlt hlt' H0.out.apart HVB.out HB.out (by rw [HRV.out]; exact HKK.out)
                ⟨M, N, by rw [HML.out, HNK.out], HMM.out.1, by rw [← HNK.out]; exact HGO.out, by rw [← HSS.out]; exact HMM.out.2.1⟩
                ⟨M, by rw [HML.out, HNK.out], by rw [HRV.out, HML.out]; exact HVO.out, by rw [← HNK.out]; exact HMM.out.2.2⟩ HC.out hk2 hown2 hb2
              have Q2 := Lib.hid q2
              have q3 := ((HK.out.trans' HKK.out (fun b hb h1 => by
                rcases h1 with h1 | h1
                · exact ⟨k, hlt, by rw [HRV.out]; exact h1⟩
                · have := HB.out; have := HB0.out; omega)).alloc (.cells #[Value.slice ga (nk + 20) gc] 29)).trans' hk2 (fun b hb h1 => by have := HG.out.listNew b h1; have := HB0.out; omega)
              have Q3 := Lib.hid q3
              have Q4 : Hid (B ≤ w2.heap.size) := Lib.hid (by have := HB.out; have := HKK.out.size; have := hk2.size; simp at this; omega)
              clear q2 q3 hown2 hk2 hb2
              go_roundw
              case rel => exact ⟨k + 1, _, by omega, by go_num, by go_num, Q2.out, Q3.out, Q4.out⟩
              case measure => simp [intOf]; omega
        · obtain rfl : k = vs.length := by omega
          have hcellV : ∀ i (h : i < vs.length), ∃ g off, la = some ⟨g, off, none⟩ ∧ wr.cell? ⟨g, off + i, none⟩ = some vs[i] := fun i h => by
            obtain ⟨g, off, cap, hla, _, _, hcell, _, _⟩ := HL.out.elt (by omega)
            refine ⟨g, off, by simp only [Value.slice.injEq] at hla; exact hla.1, hK.cell (hcell i vs[i] (by simp [h])) (fun ⟨i, h, hb⟩ => HD.out i h _ hb (by rw [hla]; rfl))⟩
          obtain ⟨va, vc, rfl, v1, v2, v3⟩ := hG.list.shape
          have HG := Lib.hid hG
          have HK := Lib.hid hK
          have HCV := Lib.hid hcellV
          have HUP := Lib.hid upTo_le
          clear hG hK hB hcellV v3
          go_wp2_with fail
          go_loop [3, 10] (fun n i => ∃ k : Nat, k ≤ vs.length ∧ i = .int .i64 k ∧ n = .int .i64 (upTo lens k : Nat)) (fun _ i => vs.length - (intOf i).toNat)
          case atStart => exact ⟨0, Nat.zero_le _, rfl, by simp [upTo]⟩
          case round =>
            obtain ⟨k, hk, rfl, rfl⟩ := hrel
            by_cases hlt : k < vs.length
            · have hlt' : k < lens.length := by have := HE.out; omega
              obtain ⟨g, off, rfl, hc0⟩ := HCV.out k hlt
              have hsz : lens[k] ≤ 100000 := HN.out k hlt'
              have hup := (HS k).out
              obtain ⟨M, hMl, hrow, hMk⟩ := HG.out.rows k hlt hlt'
              rw [hMl] at hrow
              obtain ⟨ra, rc, hrv, r1, r2, r3⟩ := hrow.shape
              rw [hrv] at hc0
              have HRW := Lib.hid hrow
              have HRV := Lib.hid hrv
              have HMK := Lib.hid (And.intro hMl hMk)
              have HUS := Lib.hid (upTo_succ hlt')
              obtain ⟨nk, hnk⟩ : ∃ nk, nk = lens[k] := ⟨_, rfl⟩
              have HNK := Lib.hid hnk
              obtain ⟨uk, huk⟩ : ∃ uk, uk = upTo lens k := ⟨_, rfl⟩
              have HUK := Lib.hid huk
              rw [← hnk] at hsz hc0 r1
              rw [← huk] at hup ⊢
              clear hrow hrv hnk huk r3 hMk hMl
              go_wp2_with fail
              go_loop [3, 11] (fun n j => ∃ j' : Nat, j' ≤ nk ∧ j = .int .i64 j' ∧ n = .int .i64 ((uk + j' : Nat) : Int)) (fun _ j => nk - (intOf j).toNat)
              case atStart => exact ⟨0, Nat.zero_le _, rfl, by simp⟩
              case round =>
                obtain ⟨j, hj, rfl, rfl⟩ := hrel
                by_cases hjlt : j < nk
                · have hrw := HRW.out
                  rw [HRV.out] at hrw
                  obtain ⟨g2, off2, cap2, hv2, _, _, hcell2, _, _⟩ := hrw.elt (by rw [← HNK.out]; omega)
                  simp only [Value.slice.injEq] at hv2
                  obtain ⟨rfl, _, rfl⟩ := hv2
                  have hju : M[j]? = some (M[j]'(by rw [HMK.out.1, ← HNK.out]; exact hjlt)) := by simp [HMK.out.1, ← HNK.out, hjlt]
                  have hc2 := hcell2 j _ hju
                  obtain ⟨b3, e3, h3⟩ := HMK.out.2 j _ (by rw [← HNK.out]; exact hjlt) hju
                  rw [e3] at hc2
                  rw [← HUK.out] at h3
                  have hc3 : wr.cell? ⟨b3, 0, none⟩ = some (.int .i64 ((uk + j : Nat) : Int)) := cell_of h3 rfl
                  clear hrw hcell2 hju e3 h3
                  go_wp2
                  go_round
                  case rel => exact ⟨j + 1, by omega, by go_num, by go_num⟩
                  case measure => simp [intOf]; omega
                · obtain rfl : j = nk := by omega
                  go_wp2
                  go_round
                  case rel => exact ⟨k + 1, by omega, by go_num, by rw [HUS.out, ← HUK.out, ← HNK.out]⟩
                  case measure => simp [intOf]; omega
            · obtain rfl : k = vs.length := by omega
              rw [HUS.out, ← HSS.out]
              go_wp2_with fail
              go_loop [3, 12] (fun n i => ∃ k : Nat, k ≤ vs.length ∧ i = .int .i64 k ∧ n = .int .i64 ((S + 20 * k : Nat) : Int)) (fun _ i => vs.length - (intOf i).toNat)
              case atStart => exact ⟨0, Nat.zero_le _, rfl, rfl⟩
              case round =>
                obtain ⟨k, hk, rfl, rfl⟩ := hrel
                by_cases hlt : k < vs.length
                · have hlt' : k < lens.length := by have := HE.out; omega
                  have hltg : k < gs.length := by rw [HG.out.len]; exact hlt
                  obtain ⟨g, off, rfl, hc0⟩ := HCV.out k hlt
                  obtain ⟨gg, goff, gcap, hva, _, _, hgcell, _, _⟩ := HG.out.list.elt (by omega)
                  simp only [Value.slice.injEq] at hva
                  obtain ⟨rfl, _, rfl⟩ := hva
                  have hc3 : wr.cell? ⟨gg, goff + k, none⟩ = some gs[k] := hgcell k gs[k] (by simp [hltg])
                  have hsz : lens[k] ≤ 100000 := HN.out k hlt'
                  obtain ⟨M, hMl, hrow, _⟩ := HG.out.rows k hlt hlt'
                  rw [hMl] at hrow
                  obtain ⟨U, N, hUl, hNl, hgrow, hNk⟩ := HG.out.own k hltg hlt'
                  obtain ⟨ra, rc, hrv, r1, r2, r3⟩ := hrow.shape
                  obtain ⟨sa, sc, hsv, s1, s2, s3⟩ := hgrow.shape
                  rw [hrv] at hc0
                  rw [hsv] at hc3
                  have HGR := Lib.hid hgrow
                  have HSV := Lib.hid hsv
                  have HNKK := Lib.hid (And.intro hUl (And.intro hNl hNk))
                  obtain ⟨nk, hnk⟩ : ∃ nk, nk = lens[k] := ⟨_, rfl⟩
                  have HNK := Lib.hid hnk
                  rw [← hnk] at hsz hc0 r1 hc3 s1
                  clear hrow hrv hnk r3 s3 hgcell hgrow hsv hMl hUl hNl hNk
                  go_wp2_with fail
                  go_loop [3, 13] (fun n j => ∃ t : Nat, t ≤ 20 ∧ j = .int .i64 ((nk + t : Nat) : Int) ∧ n = .int .i64 ((S + 20 * k + t : Nat) : Int)) (fun _ j => nk + 20 - (intOf j).toNat)
                  case atStart => exact ⟨0, Nat.zero_le _, rfl, rfl⟩
                  case round =>
                    obtain ⟨t, ht, rfl, rfl⟩ := hrel
                    by_cases htlt : t < 20
                    · have hrw := HGR.out
                      rw [HSV.out] at hrw
                      obtain ⟨g2, off2, cap2, hv2, _, _, hcell2, _, _⟩ := hrw.elt (by omega)
                      simp only [Value.slice.injEq] at hv2
                      obtain ⟨rfl, _, rfl⟩ := hv2
                      have hju : N[t]? = some (N[t]'(by rw [HNKK.out.2.1]; exact htlt)) := by simp [HNKK.out.2.1, htlt]
                      have hc2 := hcell2 (nk + t) _ (by
                        rw [List.getElem?_append_right (by rw [HNKK.out.1, ← HNK.out]; omega), HNKK.out.1, ← HNK.out, Nat.add_sub_cancel_left]
                        exact hju)
                      obtain ⟨b3, e3, h3⟩ := HNKK.out.2.2 t _ htlt hju
                      rw [e3] at hc2
                      rw [← HSS.out] at h3
                      have hc4 : wr.cell? ⟨b3, 0, none⟩ = some (.int .i64 ((S + 20 * k + t : Nat) : Int)) := cell_of h3 rfl
                      clear hrw hcell2 hju e3 h3
                      go_wp2
                      go_round
                      case rel => exact ⟨t + 1, by omega, by go_num, by go_num⟩
                      case measure => simp [intOf]; omega
                    · obtain rfl : t = 20 := by omega
                      go_wp2
                      go_round
                      case rel => exact ⟨k + 1, by omega, by go_num, by go_num⟩
                      case measure => simp [intOf]; omega
                · obtain rfl : k = vs.length := by omega
                  go_wp2
                  go_ret
                  exact ⟨rfl, HK.out⟩

end Go.Proofs.Ytncloielmfplpaa

namespace Go.Proofs.Ytncloielmfplpaa
open Go.RowKit
set_option linter.unusedVariables false
set_option linter.unusedSimpArgs false

/-- Slices of other things have other memory. -/
theorem own_ne {w : World} {e1 e2 : TypeId} {s1 s2 n1 n2 : Nat} {v1 v2 : Value} {x1 x2 : List Value} (h1 : Own w e1 s1 v1 n1 x1) (h2 : Own w e2 s2 v2 n2 x2) (he : e1 ≠ e2) : ∀ b, v1.ownBlock = some b → v2.ownBlock ≠ some b := by
  intro b hb hb2
  rcases h1.2 with ⟨rfl, _⟩ | ⟨g, off, cap, cur, rfl, hg, _⟩
  · simp [Value.ownBlock] at hb
  · rcases h2.2 with ⟨rfl, _⟩ | ⟨g', off', cap', cur', rfl, hg', _⟩
    · simp [Value.ownBlock] at hb2
    · simp [Value.ownBlock] at hb hb2
      subst hb
      subst hb2
      rw [hg] at hg'
      simp only [Option.some.injEq, Obj.cells.injEq] at hg'
      exact he hg'.2.1

theorem VsIs.ne {α : Type} {e e' : TypeId} {enc : α → Value} {w : World} {vs : List Value} {Ys : List (List α)} {sz n : Nat} {v : Value} {xs : List Value} (h : VsIs e enc w vs Ys) (o : Own w e' sz v n xs) (he : e ≠ e') : ∀ u ∈ vs, ∀ b, u.ownBlock = some b → v.ownBlock ≠ some b := by
  intro u hu
  obtain ⟨i, hi, rfl⟩ := List.mem_iff_getElem.1 hu
  exact own_ne (h.own i hi (by rw [← h.len]; exact hi)) o he

theorem VsIs.append {α : Type} {e : TypeId} {enc : α → Value} {w : World} {vs us : List Value} {Ys Zs : List (List α)} (h1 : VsIs e enc w vs Ys) (h2 : VsIs e enc w us Zs) (hd : ∀ v ∈ vs, ∀ u ∈ us, ∀ b, v.ownBlock = some b → u.ownBlock ≠ some b) : VsIs e enc w (vs ++ us) (Ys ++ Zs) := by
  have hl := h1.len
  have hl2 := h2.len
  refine ⟨by simp [hl, hl2], ?_, ?_⟩
  · intro i hi hi'
    by_cases h : i < vs.length
    · rw [List.getElem_append_left h]
      simp only [List.getElem_append_left (show i < Ys.length by omega)]
      exact h1.own i h (by omega)
    · have h3 : vs.length ≤ i := by omega
      have h4 : Ys.length ≤ i := by omega
      have h5 : i - vs.length < us.length := by simp at hi; omega
      rw [List.getElem_append_right h3]
      simp only [List.getElem_append_right h4]
      have e1 : i - Ys.length = i - vs.length := by rw [hl]
      simp only [e1]
      exact h2.own _ h5 (by omega)
  · intro i j hi hj hij b hb
    by_cases h : i < vs.length
    · rw [List.getElem_append_left h] at hb
      by_cases h' : j < vs.length
      · rw [List.getElem_append_left h']
        exact h1.apart i j h h' hij b hb
      · rw [List.getElem_append_right (by omega)]
        exact hd _ (List.getElem_mem h) _ (List.getElem_mem _) b hb
    · rw [List.getElem_append_right (by omega)] at hb
      by_cases h' : j < vs.length
      · rw [List.getElem_append_left h']
        exact fun hb' => hd _ (List.getElem_mem h') _ (List.getElem_mem _) b hb' hb
      · rw [List.getElem_append_right (by omega)]
        exact h2.apart _ _ (by simp at hi; omega) (by simp at hj; omega) (by omega) b hb

theorem VsIs.one {α : Type} {e : TypeId} {enc : α → Value} {w : World} {v : Value} {Y : List α} (h : Own w e 1 v Y.length (cellsOf enc Y)) : VsIs e enc w [v] [Y] := by
  refine ⟨rfl, fun i hi hi' => ?_, fun i j hi hj hij => ?_⟩
  · obtain rfl : i = 0 := by simpa using hi
    exact h
  · simp at hi hj
    omega

theorem VsIs.rows0 {w : World} {vs : List Value} {Ys : List (List Int)} (h : VsIs 3 encI w vs Ys) : Rows0 w vs (Ys.map List.length) :=
  ⟨by simp [h.len], fun i hi => ⟨Ys[i]'(by have := h.len; omega), by simp, h.own i hi (by have := h.len; omega)⟩, h.apart⟩

theorem Rows0R.frame {w w' : World} {vs : List Value} {ns : List Nat} {F : Nat → Prop} (h : Rows0R w vs ns) (hk : Kept F w w') (hd : ∀ v ∈ vs, ∀ b, v.ownBlock = some b → ¬ F b) : Rows0R w' vs ns :=
  ⟨h.len, fun i hi => by obtain ⟨us, h1, h2⟩ := h.own i hi; exact ⟨us, h1, h2.frame hk (hd _ (List.getElem_mem hi))⟩, h.apart⟩

theorem Rows0R.lt {w : World} {vs : List Value} {ns : List Nat} (h : Rows0R w vs ns) {v : Value} (hv : v ∈ vs) {b : Nat} (hb : v.ownBlock = some b) : b < w.heap.size := by
  obtain ⟨i, hi, rfl⟩ := List.mem_iff_getElem.1 hv
  obtain ⟨us, h1, h2⟩ := h.own i hi
  exact h2.lt hb

theorem Rows0R.ne {w : World} {vs : List Value} {ns : List Nat} {e : TypeId} {sz n : Nat} {v : Value} {xs : List Value} (h : Rows0R w vs ns) (o : Own w e sz v n xs) (he : 22 ≠ e) : ∀ u ∈ vs, ∀ b, u.ownBlock = some b → v.ownBlock ≠ some b := by
  intro u hu
  obtain ⟨i, hi, rfl⟩ := List.mem_iff_getElem.1 hu
  obtain ⟨us, h1, h2⟩ := h.own i hi
  exact own_ne h2 o he

theorem Rows0R.snoc {w : World} {vs : List Value} {ns : List Nat} {v : Value} {us : List Value} (h : Rows0R w vs ns) (ho : Own w 22 1 v us.length us) (hn : ∀ u ∈ vs, ∀ b, u.ownBlock = some b → v.ownBlock ≠ some b) : Rows0R w (vs ++ [v]) (ns ++ [us.length]) := by
  have hl := h.len
  refine ⟨by simp [hl], ?_, ?_⟩
  · intro i hi
    by_cases h1 : i < vs.length
    · have := h.own i h1
      rw [List.getElem_append_left h1]
      simp only [List.getElem_append_left (show i < ns.length by omega)]
      exact this
    · obtain rfl : i = vs.length := by simp at hi; omega
      have e1 : (vs ++ [v])[vs.length]'hi = v := by simp
      have e2 : (ns ++ [us.length])[vs.length]'(by simp; omega) = us.length := by simp [hl]
      rw [e1, e2]
      exact ⟨us, rfl, ho⟩
  · intro i j hi hj hij b hb
    by_cases h1 : i < vs.length
    · rw [List.getElem_append_left h1] at hb
      by_cases h2 : j < vs.length
      · rw [List.getElem_append_left h2]
        exact h.apart i j h1 h2 hij b hb
      · obtain rfl : j = vs.length := by simp at hj; omega
        rw [List.getElem_append_right (Nat.le_refl _)]
        simp only [Nat.sub_self, List.getElem_cons_zero]
        exact hn _ (List.getElem_mem h1) b hb
    · obtain rfl : i = vs.length := by simp at hi; omega
      rw [List.getElem_append_right (Nat.le_refl _)] at hb
      simp only [Nat.sub_self, List.getElem_cons_zero] at hb
      have h2 : j < vs.length := by simp at hj; omega
      rw [List.getElem_append_left h2]
      exact fun h' => hn _ (List.getElem_mem h2) b h' hb

/-- The lists laid aside: lv holds vs (ints Ys), rv holds gs; all new since B. -/
structure APx (B : Nat) (w : World) (lv rv : Value) (vs : List Value) (Ys : List (List Int)) (gs : List Value) (ns : List Nat) : Prop where
  lst : Own w 22 1 lv vs.length vs
  vis : VsIs 3 encI w vs Ys
  row : Own w 29 1 rv gs.length gs
  grw : Rows0R w gs ns
  gl : ∀ g ∈ gs, ∀ b, g.ownBlock = some b → lv.ownBlock ≠ some b
  bv : ∀ v ∈ vs, ∀ b, v.ownBlock = some b → B ≤ b
  bl : ∀ b, lv.ownBlock = some b → B ≤ b
  br : ∀ b, rv.ownBlock = some b → B ≤ b
  bg : ∀ g ∈ gs, ∀ b, g.ownBlock = some b → B ≤ b

theorem APx.start (B : Nat) (w : World) : APx B w (.slice none 0 0) (.slice none 0 0) [] [] [] [] :=
  ⟨Own.nil _ _ _, ⟨rfl, fun i h => by simp at h, fun i j h => by simp at h⟩, Own.nil _ _ _, ⟨rfl, fun i h => by simp at h, fun i j h => by simp at h⟩, by simp, by simp, by simp [Value.ownBlock], by simp [Value.ownBlock], by simp⟩

theorem APx.frame {B : Nat} {w w' : World} {lv rv : Value} {vs : List Value} {Ys : List (List Int)} {gs : List Value} {ns : List Nat} (h : APx B w lv rv vs Ys gs ns) (hk : Kept (fun _ => False) w w') : APx B w' lv rv vs Ys gs ns :=
  ⟨h.lst.frame hk (fun _ _ => id), h.vis.frame hk (fun _ _ _ _ => id), h.row.frame hk (fun _ _ => id), h.grw.frame hk (fun _ _ _ _ => id), h.gl, h.bv, h.bl, h.br, h.bg⟩

theorem APx.round {B : Nat} {w0 wg wx w5 w6 w7 w8 : World} {lv rv lv6 lv7 rv8 gv xv : Value} {vs gs vg : List Value} {Ys G : List (List Int)} {ns : List Nat} {X : List Int} {o1 o3 : Obj}
    (h : APx B w0 lv rv vs Ys gs ns) (hB : B ≤ w0.heap.size)
    (kg : Kept (fun _ => False) w0 wg) (g1 : Own wg 22 1 gv vg.length vg) (g2 : VsIs 3 encI wg vg G) (g3 : ∀ b, gv.ownBlock = some b → w0.heap.size ≤ b) (g4 : ∀ v ∈ vg, ∀ b, v.ownBlock = some b → w0.heap.size ≤ b)
    (kx : Kept (fun _ => False) wg wx) (x1 : Own wx 3 1 xv X.length (cellsOf encI X)) (x2 : ∀ b, xv.ownBlock = some b → wg.heap.size ≤ b)
    (kc : Kept (fun _ => False) wx w5)
    (k6 : Kept (fun b => lv.ownBlock = some b) (w5.alloc o1) w6) (o6 : Own w6 22 1 lv6 (vs.length + 1) (vs ++ [xv])) (b6 : ∀ b, lv6.ownBlock = some b → lv.ownBlock = some b ∨ (w5.alloc o1).heap.size ≤ b)
    (k7 : Kept (fun b => lv6.ownBlock = some b) w6 w7) (o7 : Own w7 22 1 lv7 (vs.length + 1 + vg.length) (vs ++ [xv] ++ vg)) (b7 : ∀ b, lv7.ownBlock = some b → lv6.ownBlock = some b ∨ w6.heap.size ≤ b)
    (k8 : Kept (fun b => rv.ownBlock = some b) (w7.alloc o3) w8) (o8 : Own w8 29 1 rv8 (gs.length + 1) (gs ++ [gv])) (b8 : ∀ b, rv8.ownBlock = some b → rv.ownBlock = some b ∨ (w7.alloc o3).heap.size ≤ b) :
    APx B w8 lv7 rv8 (vs ++ [xv] ++ vg) (Ys ++ [X] ++ G) (gs ++ [gv]) (ns ++ [vg.length]) := by
  have kgx : Kept (fun _ => False) w0 wx := kg.trans' kx (fun _ _ h => h)
  have k05 : Kept (fun _ => False) w0 (w5.alloc o1) := (kgx.trans' kc (fun _ _ h => h)).alloc o1
  have kg5 : Kept (fun _ => False) wg (w5.alloc o1) := (kx.trans' kc (fun _ _ h => h)).alloc o1
  have kx5 : Kept (fun _ => False) wx (w5.alloc o1) := kc.alloc o1
  have s0g := kg.size
  have sgx := kx.size
  have sg5 := kg5.size
  have s05 := k05.size
  have s56 := k6.size
  have s67 := k7.size
  have s78 := k8.size
  have s7a : (w7.alloc o3).heap.size = w7.heap.size + 1 := by simp
  -- in w5
  have h5 := h.frame k05
  have gA : Own (w5.alloc o1) 22 1 gv vg.length vg := g1.frame kg5 (fun _ _ => id)
  have vA : VsIs 3 encI (w5.alloc o1) vg G := g2.frame kg5 (fun _ _ _ _ => id)
  have xA : Own (w5.alloc o1) 3 1 xv X.length (cellsOf encI X) := x1.frame kx5 (fun _ _ => id)
  have lvlt : ∀ b, lv.ownBlock = some b → b < w0.heap.size := fun b hb => h.lst.lt hb
  have gvl : ∀ b, gv.ownBlock = some b → lv.ownBlock ≠ some b := fun b hb hl => by have := g3 b hb; have := lvlt b hl; omega
  -- in w6
  have V6 : VsIs 3 encI w6 vs Ys := h5.vis.frame k6 (h5.vis.ne h5.lst (by decide))
  have X6 : Own w6 3 1 xv X.length (cellsOf encI X) := xA.frame k6 (own_ne xA h5.lst (by decide))
  have VG6 : VsIs 3 encI w6 vg G := vA.frame k6 (vA.ne h5.lst (by decide))
  have G6 : Own w6 22 1 gv vg.length vg := gA.frame k6 gvl
  have R6 : Own w6 29 1 rv gs.length gs := h5.row.frame k6 (own_ne h5.row h5.lst (by decide))
  have GS6 : Rows0R w6 gs ns := h5.grw.frame k6 h.gl
  have gl6 : ∀ g ∈ gs, ∀ b, g.ownBlock = some b → lv6.ownBlock ≠ some b := fun g hg b hb hl => by
    rcases b6 b hl with h1 | h1
    · exact h.gl g hg b hb h1
    · have := h5.grw.lt hg hb
      omega
  have gvl6 : ∀ b, gv.ownBlock = some b → lv6.ownBlock ≠ some b := fun b hb hl => by
    rcases b6 b hl with h1 | h1
    · exact gvl b hb h1
    · have := gA.lt hb
      omega
  -- in w7
  have V7 : VsIs 3 encI w7 vs Ys := V6.frame k7 (V6.ne o6 (by decide))
  have X7 : Own w7 3 1 xv X.length (cellsOf encI X) := X6.frame k7 (own_ne X6 o6 (by decide))
  have VG7 : VsIs 3 encI w7 vg G := VG6.frame k7 (VG6.ne o6 (by decide))
  have G7 : Own w7 22 1 gv vg.length vg := G6.frame k7 gvl6
  have R7 : Own w7 29 1 rv gs.length gs := R6.frame k7 (own_ne R6 o6 (by decide))
  have GS7 : Rows0R w7 gs ns := GS6.frame k7 gl6
  -- in w8
  have R7a := R7.alloc o3
  have K0 : Kept (fun _ => False) w7 (w7.alloc o3) := (Kept.refl _ w7).alloc o3
  have V7a : VsIs 3 encI (w7.alloc o3) vs Ys := V7.frame K0 (fun _ _ _ _ => id)
  have X7a := X7.alloc o3
  have VG7a : VsIs 3 encI (w7.alloc o3) vg G := VG7.frame K0 (fun _ _ _ _ => id)
  have G7a := G7.alloc o3
  have GS7a : Rows0R (w7.alloc o3) gs ns := GS7.frame K0 (fun _ _ _ _ => id)
  have L7a := o7.alloc o3
  have V8 : VsIs 3 encI w8 vs Ys := V7a.frame k8 (V7a.ne R7a (by decide))
  have X8 : Own w8 3 1 xv X.length (cellsOf encI X) := X7a.frame k8 (own_ne X7a R7a (by decide))
  have VG8 : VsIs 3 encI w8 vg G := VG7a.frame k8 (VG7a.ne R7a (by decide))
  have G8 : Own w8 22 1 gv vg.length vg := G7a.frame k8 (own_ne G7a R7a (by decide))
  have GS8 : Rows0R w8 gs ns := GS7a.frame k8 (GS7a.ne R7a (by decide))
  have L8 : Own w8 22 1 lv7 (vs.length + 1 + vg.length) (vs ++ [xv] ++ vg) := L7a.frame k8 (own_ne L7a R7a (by decide))
  refine ⟨by rw [show (vs ++ [xv] ++ vg).length = vs.length + 1 + vg.length by simp only [List.length_append, List.length_singleton]]; exact L8, ?_, by simpa using o8, ?_, ?_, ?_, ?_, ?_, ?_⟩
  · refine (V8.append (VsIs.one X8) ?_).append VG8 ?_
    · intro v hv u hu b hb hb'
      simp only [List.mem_singleton] at hu
      subst hu
      have := h.vis.lt hv hb
      have := x2 b hb'
      omega
    · intro v hv u hu b hb hb'
      rcases List.mem_append.1 hv with hv | hv
      · have := h.vis.lt hv hb
        have := g4 u hu b hb'
        omega
      · simp only [List.mem_singleton] at hv
        subst hv
        have := x2 b hb
        have := g2.lt hu hb'
        omega
  · refine GS8.snoc G8 fun u hu b hb hb' => ?_
    have := h.grw.lt hu hb
    have := g3 b hb'
    omega
  · intro g hg b hb hl
    have hlt : b < w6.heap.size := by
      rcases List.mem_append.1 hg with hg | hg
      · exact GS6.lt hg hb
      · simp only [List.mem_singleton] at hg
        subst hg
        exact G6.lt hb
    rcases b7 b hl with h1 | h1
    · rcases List.mem_append.1 hg with hg | hg
      · exact gl6 g hg b hb h1
      · simp only [List.mem_singleton] at hg
        subst hg
        exact gvl6 b hb h1
    · omega
  · intro v hv b hb
    rcases List.mem_append.1 hv with hv | hv
    · rcases List.mem_append.1 hv with hv | hv
      · exact h.bv v hv b hb
      · simp only [List.mem_singleton] at hv
        subst hv
        have := x2 b hb
        omega
    · have := g4 v hv b hb
      omega
  · intro b hb
    rcases b7 b hb with h1 | h1
    · rcases b6 b h1 with h2 | h2
      · exact h.bl b h2
      · omega
    · omega
  · intro b hb
    rcases b8 b hb with h1 | h1
    · exact h.br b h1
    · omega
  · intro g hg b hb
    rcases List.mem_append.1 hg with hg | hg
    · exact h.bg g hg b hb
    · simp only [List.mem_singleton] at hg
      subst hg
      have := g3 b hb
      omega

theorem sum_le_mul {c : Nat} : ∀ {l : List Nat}, (∀ n ∈ l, n ≤ c) → l.sum ≤ c * l.length
  | [], _ => by simp
  | a :: l, h => by
    have h1 := sum_le_mul (c := c) (l := l) (fun n hn => h n (by simp [hn]))
    have h2 := h a (by simp)
    rw [List.sum_cons, List.length_cons, Nat.mul_succ]
    omega

/-- Two pairs that are the same are not told apart. -/
theorem run_neq_pr (w : World) (a b : Int) : (binOp .neq 31 (.agg #[.int .i64 a, .int .i64 b]) (.agg #[.int .i64 a, .int .i64 b])).run Try.prog w = .ok (.bool false) w := by
  have hc : Try.prog.cellsOf 3 = 1 := by kernel_rfl
  obtain ⟨i, hi⟩ : ∃ i, Try.prog.info? 3 = some i := info_of_underlying Try.underlying3
  have p1 : ∀ (x : Value) (cs : List Value) (i : Nat), cs[i]? = some x → (part 3 cs.toArray i).run Try.prog w = .ok x w := fun x cs i h => by
    simp [part, isAgg, run_underlying Try.underlying3, h]
  have e1 : ∀ (x y : Int), (Op.equalIn 9999 3 (.int .i64 x) (.int .i64 y)).run Try.prog w = .ok (x == y) w := fun x y => run_equalIn_int w 9998 3 .i64 .i64 x y Try.underlying3
  have h : (Op.equal 31 (.agg #[.int .i64 a, .int .i64 b]) (.agg #[.int .i64 a, .int .i64 b])).run Try.prog w = .ok true w := by
    unfold Op.equal Op.maxDepth
    rw [run_equalIn_array w 9999 _ _ Try.underlying31 hi, hc]
    have hr : List.range 2 = [0, 1] := rfl
    rw [hr]
    simp only [Op.eqItems, Nat.mul_one, Sem.run_bind]
    rw [p1 (.int .i64 a) [.int .i64 a, .int .i64 b] 0 rfl, Result.andThen_ok, p1 (.int .i64 a) [.int .i64 a, .int .i64 b] 0 rfl, Result.andThen_ok, e1, Result.andThen_ok]
    simp only [beq_self_eq_true, Bool.not_true, Bool.false_eq_true, if_false, Sem.run_bind]
    rw [p1 (.int .i64 b) [.int .i64 a, .int .i64 b] 1 rfl, Result.andThen_ok, p1 (.int .i64 b) [.int .i64 a, .int .i64 b] 1 rfl, Result.andThen_ok, e1, Result.andThen_ok]
    simp
  simp [binOp, h]

end Go.Proofs.Ytncloielmfplpaa
