/- Ground lemmas of this seat: frames by sets of blocks, owned slices, readable slices, append, maps as lists of pairs. No statement of the seat is proved here. -/
import Derived.WalkKit
import Derived.Lib.Hide
import Derived.Maps.Keyed
namespace Go.Proofs.Ytllcklddfcclfaa
open Go.RowKit
set_option linter.unusedVariables false
set_option linter.unusedSimpArgs false

/-- All blocks of w outside F are in w' as they were; none is gone; the streams are as they were. -/
structure Kept (F : Nat → Prop) (w w' : World) : Prop where
  os : w'.os = w.os
  tape : w'.tape = w.tape
  output : w'.output = w.output
  size : w.heap.size ≤ w'.heap.size
  block : ∀ b, b < w.heap.size → ¬ F b → w'.heap[b]? = w.heap[b]?

theorem Kept.refl (F : Nat → Prop) (w : World) : Kept F w w := ⟨rfl, rfl, rfl, Nat.le_refl _, fun _ _ _ => rfl⟩

theorem Kept.trans {F : Nat → Prop} {a b c : World} (h : Kept F a b) (k : Kept F b c) : Kept F a c :=
  ⟨k.os.trans h.os, k.tape.trans h.tape, k.output.trans h.output, Nat.le_trans h.size k.size, fun i hi hf => (k.block i (Nat.lt_of_lt_of_le hi h.size) hf).trans (h.block i hi hf)⟩

theorem Kept.mono {F G : Nat → Prop} {a b : World} (h : Kept F a b) (hg : ∀ i, i < a.heap.size → F i → G i) : Kept G a b :=
  ⟨h.os, h.tape, h.output, h.size, fun i hi hf => h.block i hi (fun hF => hf (hg i hi hF))⟩

/-- Two steps: what the second writes is in F, or is new since the first began. -/
theorem Kept.trans' {F G : Nat → Prop} {a b c : World} (h : Kept F a b) (k : Kept G b c) (hg : ∀ i, i < a.heap.size → G i → F i) : Kept F a c :=
  ⟨k.os.trans h.os, k.tape.trans h.tape, k.output.trans h.output, Nat.le_trans h.size k.size, fun i hi hf => (k.block i (Nat.lt_of_lt_of_le hi h.size) (fun hG => hf (hg i hi hG))).trans (h.block i hi hf)⟩

theorem Kept.drew {F : Nat → Prop} {a w : World} (h : Kept F a w) : Kept F a w.drew := ⟨h.os, h.tape, h.output, h.size, h.block⟩
theorem Kept.drewN {F : Nat → Prop} {a w : World} (h : Kept F a w) (n : Nat) : Kept F a { w with drawn := w.drawn + n } := ⟨h.os, h.tape, h.output, h.size, h.block⟩

theorem Kept.alloc {F : Nat → Prop} {a w : World} (h : Kept F a w) (o : Obj) : Kept F a (w.alloc o) :=
  h.trans ⟨rfl, rfl, rfl, by simp, fun k hk _ => Below.heap_alloc _ _ _ hk⟩

theorem Kept.setCell {F : Nat → Prop} {a w : World} (h : Kept F a w) {p : Addr} (hp : p.block < a.heap.size → F p.block) (u : Value) : Kept F a (w.setCell p u) :=
  h.trans' (G := fun b => b = p.block) ⟨rfl, rfl, rfl, by simp, fun k _ hk => Below.heap_setCell _ _ _ _ hk⟩ (fun i hi e => by subst e; exact hp hi)

theorem Kept.grown {F : Nat → Prop} {a w w' : World} {row : Option Nat} (h : Kept F a w) (hg : w.grownBy w' row) (hr : ∀ k, row = some k → k < a.heap.size → F k) : Kept F a w' :=
  h.trans' (G := fun b => row = some b) ⟨hg.os, hg.tape, hg.output, hg.size, fun k hk hn => hg.block k hk (fun e => hn e.symm)⟩ (fun i hi e => hr i e hi)

theorem Kept.below {F : Nat → Prop} {a w : World} {B : Nat} (h : Kept F a w) (hB : B ≤ a.heap.size) (hF : ∀ i, i < B → ¬ F i) : Below B a w :=
  ⟨h.os, h.tape, h.output, h.size, fun i hi => h.block i (Nat.lt_of_lt_of_le hi hB) (hF i hi)⟩

/-- One step more, in blocks from B on. -/
theorem below_step {F : Nat → Prop} {B : Nat} {a w w' : World} (h : Below B a w) (hB : B ≤ a.heap.size) (k : Kept F w w') (hF : ∀ b, F b → B ≤ b) : Below B a w' :=
  h.trans (k.below (Nat.le_trans hB h.size) fun i hi hf => by have := hF i hf; omega)

theorem Kept.of_below {a w : World} {B : Nat} (h : Below B a w) : Kept (fun b => B ≤ b) a w :=
  ⟨h.os, h.tape, h.output, h.size, fun i _ hf => h.block i (Nat.lt_of_not_le hf)⟩

theorem Kept.cell {F : Nat → Prop} {a w : World} (h : Kept F a w) {p : Addr} {v : Value} (hc : a.cell? p = some v) (hf : ¬ F p.block) : w.cell? p = some v :=
  (World.cell?_of_block (h.block p.block (World.block_lt_of_cell? a p hc) hf)).trans hc

/-- A block of cells, one cell written. -/
theorem heap_set {w : World} {b o : Nat} {c : Array Value} {t : TypeId} {fr : Nat × Nat} (h : w.heap[b]? = some (.cells c t fr)) (v : Value) :
    (w.setCell ⟨b, o, none⟩ v).heap[b]? = some (.cells (c.setIfInBounds o v) t fr) := by
  simp [World.setCell, Array.getElem?_modify, h]

theorem heap_set_ne {w : World} {b : Nat} {p : Addr} (h : b ≠ p.block) (v : Value) : (w.setCell p v).heap[b]? = w.heap[b]? := Below.heap_setCell _ _ _ _ h

theorem heap_lt {w : World} {b : Nat} {o : Obj} (h : w.heap[b]? = some o) : b < w.heap.size := (Array.getElem?_eq_some_iff.1 h).1

theorem heap_alloc {w : World} {b : Nat} {o : Obj} (h : w.heap[b]? = some o) (o' : Obj) : (w.alloc o').heap[b]? = some o := (Below.heap_alloc _ _ _ (heap_lt h)).trans h

theorem cell_of {w : World} {b i : Nat} {c : Array Value} {t : TypeId} {fr : Nat × Nat} {v : Value} (h : w.heap[b]? = some (.cells c t fr)) (hi : c[i]? = some v) : w.cell? ⟨b, i, none⟩ = some v := by
  simp [World.cell?, h, hi]

theorem frozen_of {w : World} {b i : Nat} {c : Array Value} {t : TypeId} (h : w.heap[b]? = some (.cells c t (0, 0))) : w.frozen? ⟨b, i, none⟩ = false := by
  simp [World.frozen?, h]

/-! ### Slices -/

/-- v is a slice of n elements (of type e, sz cells each) which hold the cells xs, in an unfrozen block. -/
def Own (w : World) (e : TypeId) (sz : Nat) (v : Value) (n : Nat) (xs : List Value) : Prop :=
  xs.length = n * sz ∧
  ((v = .slice none 0 0 ∧ n = 0) ∨
   ∃ g off cap cur, v = .slice (some ⟨g, off, none⟩) n cap ∧ w.heap[g]? = some (.cells cur e (0, 0)) ∧ n ≤ cap ∧ cap ≤ maxLen ∧ off + cap * sz ≤ cur.size ∧ (cur.toList.drop off).take (n * sz) = xs)

theorem Own.nil (w : World) (e : TypeId) (sz : Nat) : Own w e sz (.slice none 0 0) 0 [] := ⟨by simp, .inl ⟨rfl, rfl⟩⟩

theorem Own.lt {w : World} {e : TypeId} {sz : Nat} {v : Value} {n : Nat} {xs : List Value} (h : Own w e sz v n xs) {b : Nat} (hb : v.ownBlock = some b) : b < w.heap.size := by
  rcases h.2 with ⟨rfl, _⟩ | ⟨g, off, cap, cur, rfl, hg, _⟩
  · simp [Value.ownBlock] at hb
  · simp [Value.ownBlock] at hb
    subst hb
    exact heap_lt hg

theorem Own.kept {w w' : World} {e : TypeId} {sz : Nat} {v : Value} {n : Nat} {xs : List Value} (h : Own w e sz v n xs) (hk : ∀ b, v.ownBlock = some b → w'.heap[b]? = w.heap[b]?) : Own w' e sz v n xs := by
  refine ⟨h.1, ?_⟩
  rcases h.2 with hn | ⟨g, off, cap, cur, rfl, hg, rest⟩
  · exact .inl hn
  · exact .inr ⟨g, off, cap, cur, rfl, (hk g (by simp [Value.ownBlock])).trans hg, rest⟩

theorem Own.frame {w w' : World} {e : TypeId} {sz : Nat} {v : Value} {n : Nat} {xs : List Value} {F : Nat → Prop} (h : Own w e sz v n xs) (hk : Kept F w w') (hd : ∀ b, v.ownBlock = some b → ¬ F b) : Own w' e sz v n xs :=
  h.kept fun b hb => hk.block b (h.lt hb) (hd b hb)

theorem Own.alloc {w : World} {e : TypeId} {sz : Nat} {v : Value} {n : Nat} {xs : List Value} (h : Own w e sz v n xs) (o : Obj) : Own (w.alloc o) e sz v n xs :=
  h.kept fun _ hb => Below.heap_alloc _ _ _ (h.lt hb)

theorem Own.drew {w : World} {e : TypeId} {sz : Nat} {v : Value} {n : Nat} {xs : List Value} (h : Own w e sz v n xs) : Own w.drew e sz v n xs := h

theorem Own.setCell {w : World} {e : TypeId} {sz : Nat} {v : Value} {n : Nat} {xs : List Value} (h : Own w e sz v n xs) {p : Addr} (hp : v.ownBlock ≠ some p.block) (u : Value) : Own (w.setCell p u) e sz v n xs :=
  h.kept fun b hb => Below.heap_setCell _ _ _ _ (fun e => hp (by rw [hb, e]))

theorem Own.of_row {w : World} {base : Nat} {e : TypeId} {sz : Nat} {v : Value} {n : Nat} {xs : List Value} (h : w.ownsRow base e sz v n xs) : Own w e sz v n xs := by
  refine ⟨h.1, ?_⟩
  rcases h.2 with hn | ⟨g, cap, cur, rfl, _, hg, h1, h2, h3, h4⟩
  · exact .inl hn
  · exact .inr ⟨g, 0, cap, cur, rfl, hg, h1, h2, by omega, by simpa using h4⟩

theorem Own.fresh {w : World} {e : TypeId} {sz n : Nat} {cs : Array Value} (hc : cs.size = n * sz) (hm : n ≤ maxLen) : Own (w.alloc (.cells cs e)) e sz (.slice (some ⟨w.heap.size, 0, none⟩) n n) n cs.toList :=
  ⟨by simpa using hc, .inr ⟨_, 0, n, cs, rfl, heap_alloc_new _ _, Nat.le_refl _, hm, by omega, by
    rw [List.drop_zero, ← hc, ← Array.length_toList, List.take_length]⟩⟩

theorem Own.shape {w : World} {e : TypeId} {sz : Nat} {v : Value} {n : Nat} {xs : List Value} (h : Own w e sz v n xs) : ∃ a c, v = .slice a n c ∧ n ≤ c ∧ c ≤ maxLen ∧ (a = none → n = 0 ∧ c = 0) := by
  rcases h.2 with ⟨rfl, rfl⟩ | ⟨g, off, cap, cur, rfl, hg, h1, h2, _⟩
  · exact ⟨none, 0, rfl, Nat.le_refl _, Nat.zero_le _, fun _ => ⟨rfl, rfl⟩⟩
  · exact ⟨_, cap, rfl, h1, h2, fun h => by cases h⟩

/-- Where there is an element: the address, and what the cells hold. -/
theorem Own.elt {w : World} {e : TypeId} {sz : Nat} {v : Value} {n : Nat} {xs : List Value} (h : Own w e sz v n xs) (hn : 0 < n) :
    ∃ g off cap, v = .slice (some ⟨g, off, none⟩) n cap ∧ n ≤ cap ∧ cap ≤ maxLen ∧ (∀ j u, xs[j]? = some u → w.cell? ⟨g, off + j, none⟩ = some u) ∧ (∀ j, w.frozen? ⟨g, j, none⟩ = false) ∧ g < w.heap.size := by
  rcases h.2 with ⟨_, h0⟩ | ⟨g, off, cap, cur, rfl, hg, h1, h2, h3, h4⟩
  · omega
  · refine ⟨g, off, cap, rfl, h1, h2, fun j u hu => ?_, fun j => frozen_of hg, heap_lt hg⟩
    refine cell_of hg ?_
    rw [← h4, List.getElem?_take] at hu
    split at hu
    · simpa using hu
    · cases hu

/-- v is a slice of n elements of sz cells each, whose cells can be read: they hold xs. -/
def Rd (w : World) (sz : Nat) (v : Value) (n : Nat) (xs : List Value) : Prop :=
  xs.length = n * sz ∧ ∃ a c, v = .slice a n c ∧ n ≤ c ∧ c ≤ maxLen ∧ (a = none → n = 0 ∧ c = 0) ∧ ∀ ad, a = some ad → ∀ j u, xs[j]? = some u → w.cell? (ad.add j) = some u

theorem Own.rd {w : World} {e : TypeId} {sz : Nat} {v : Value} {n : Nat} {xs : List Value} (h : Own w e sz v n xs) : Rd w sz v n xs := by
  refine ⟨h.1, ?_⟩
  rcases h.2 with ⟨rfl, rfl⟩ | ⟨g, off, cap, cur, rfl, hg, h1, h2, h3, h4⟩
  · exact ⟨none, 0, rfl, Nat.le_refl _, Nat.zero_le _, fun _ => ⟨rfl, rfl⟩, fun _ h => by cases h⟩
  · refine ⟨_, cap, rfl, h1, h2, (fun h => by cases h), fun ad had j u hu => ?_⟩
    cases had
    rw [Addr.add_lit]
    refine cell_of hg ?_
    rw [← h4, List.getElem?_take] at hu
    split at hu
    · simpa using hu
    · cases hu

theorem Rd.kept {w w' : World} {sz : Nat} {v : Value} {n : Nat} {xs : List Value} (h : Rd w sz v n xs) (hk : ∀ b, v.ownBlock = some b → b < w.heap.size → w'.heap[b]? = w.heap[b]?) : Rd w' sz v n xs := by
  obtain ⟨hl, a, c, rfl, h1, h2, h3, h4⟩ := h
  refine ⟨hl, a, c, rfl, h1, h2, h3, fun ad had j u hu => ?_⟩
  subst had
  have e : (ad.add j).block = ad.block := by unfold Addr.add; split <;> rfl
  have hc := h4 ad rfl j u hu
  have hlt := World.block_lt_of_cell? w _ hc
  rw [e] at hlt
  rw [World.cell?_of_block (w := w) (by rw [e]; exact hk _ (by simp [Value.ownBlock]) hlt)]
  exact hc

theorem Rd.alloc {w : World} {sz : Nat} {v : Value} {n : Nat} {xs : List Value} (h : Rd w sz v n xs) (o : Obj) : Rd (w.alloc o) sz v n xs :=
  h.kept fun _ _ hb => Below.heap_alloc _ _ _ hb

theorem Rd.drew {w : World} {sz : Nat} {v : Value} {n : Nat} {xs : List Value} (h : Rd w sz v n xs) : Rd w.drew sz v n xs := h

theorem Rd.frame {w w' : World} {sz : Nat} {v : Value} {n : Nat} {xs : List Value} {F : Nat → Prop} (h : Rd w sz v n xs) (hk : Kept F w w') (hd : ∀ b, v.ownBlock = some b → ¬ F b) : Rd w' sz v n xs :=
  h.kept fun b hb hlt => hk.block b hlt (hd b hb)

theorem Rd.below {w w' : World} {sz : Nat} {v : Value} {n : Nat} {xs : List Value} {B : Nat} (h : Rd w sz v n xs) (hb : Below B w w') (hB : ∀ b, v.ownBlock = some b → b < B) : Rd w' sz v n xs :=
  h.kept fun b e _ => hb.block b (hB b e)

/-- What could be read in w can be read in whatever came of it, w's blocks being as they were. -/
theorem Rd.later {w w' : World} {sz : Nat} {v : Value} {n : Nat} {xs : List Value} (h : Rd w sz v n xs) (hb : Below w.heap.size w w') : Rd w' sz v n xs :=
  h.kept fun b _ hlt => hb.block b hlt

/-- Where there is an element: its address and its cells. -/
theorem Rd.elt {w : World} {sz : Nat} {v : Value} {n : Nat} {xs : List Value} (h : Rd w sz v n xs) (hn : 0 < n) :
    ∃ ad cap, v = .slice (some ad) n cap ∧ n ≤ cap ∧ cap ≤ maxLen ∧ ∀ j u, xs[j]? = some u → w.cell? (ad.add j) = some u := by
  obtain ⟨hl, a, c, rfl, h1, h2, h3, h4⟩ := h
  cases a with
  | none => have := (h3 rfl).1; omega
  | some ad => exact ⟨ad, c, rfl, h1, h2, h4 ad rfl⟩

theorem firstCells_rd {P : Program} {w : World} {sz : Nat} {v : Value} {n : Nat} {xs : List Value} (h : Rd w sz v n xs) : (Builtin.firstCells sz n v).run P w = .ok xs.toArray w := by
  obtain ⟨hl, a, c, rfl, h1, h2, h3, h4⟩ := h
  cases a with
  | none =>
    obtain ⟨rfl, rfl⟩ := h3 rfl
    have : xs = [] := List.eq_nil_of_length_eq_zero (by simpa using hl)
    subst this
    simp [Builtin.firstCells]
  | some ad => exact run_firstCells_some (P := P) w sz n ad n c xs hl (h4 ad rfl)

/-- The rows of the table that a slice type asks: T its number, e its element's, z the element's zero value, sz its cells, by its bytes. -/
structure SlT (P : Program) (T e : TypeId) (z : Value) (sz bytes : Nat) : Prop where
  und : P.underlying T = some (.slice e)
  info : ∃ i, P.info? e = some i ∧ i.zero = some z ∧ i.size = sz ∧ i.bytes = bytes
  zs : z.cells.size = sz
  pos : 0 < sz
  bpos : 0 < bytes

theorem SlT.mk' {P : Program} {T e : TypeId} {z : Value} {sz bytes : Nat} (h1 : P.underlying T = some (.slice e)) (h2 : (P.info? e).map (fun i => (i.zero, i.size, i.bytes)) = some (some z, sz, bytes)) (h3 : z.cells.size = sz) (h4 : 0 < sz) (h5 : 0 < bytes) : SlT P T e z sz bytes :=
  ⟨h1, info_parts h2, h3, h4, h5⟩

/-- What a new array may be asked to hold. -/
def Fits (need bytes : Nat) : Prop := need ≤ maxLen ∧ ∀ old, old < need → Builtin.nextslicecap need old * bytes ≤ 281474976710656

theorem fits_of {need bytes : Nat} (h : need * bytes ≤ 140737488355328) (hb : 0 < bytes) : Fits need bytes := by
  refine ⟨?_, fun old ho => growslice_fits ho h⟩
  have : need * 1 ≤ need * bytes := Nat.mul_le_mul_left _ hb
  unfold maxLen
  omega

theorem run_append_full {P : Program} {T e : TypeId} {z : Value} {sz bytes : Nat} (S : SlT P T e z sz bytes) (ty : TypeId) {w : World} {v vx : Value} {n m : Nat} {xs news : List Value}
    (hown : Own w e sz v n xs) (hx : Rd w sz vx m news) (h1 : ∀ u ∈ news, u.oneCell' = true) (hf : Fits (n + m) bytes) :
    ∃ v' w', (Builtin.append_ #[T, T] ty #[v, vx]).run P w = .ok v' w' ∧ Own w' e sz v' (n + m) (xs ++ news) ∧ Kept (fun b => v.ownBlock = some b) w w' ∧
      (∀ b, v'.ownBlock = some b → v.ownBlock = some b ∨ w.heap.size ≤ b) ∧ (v' = .slice none 0 0 ↔ v = .slice none 0 0 ∧ m = 0) ∧ Own w' e sz v n xs ∧ ((∃ a c, v = .slice a n c ∧ v' = .slice a (n + m) c) ∨ ∀ b, v'.ownBlock = some b → w.heap.size ≤ b) := by
  obtain ⟨i, hi, hz, hsz, hby⟩ := S.info
  subst hsz hby
  have ht := S.und
  have hrx := hx
  obtain ⟨hl, ax, cx, rfl, hx1, hx2, hx3, hx4⟩ := hx
  have hlen : (xs ++ news).length = (n + m) * i.size := by rw [List.length_append, hown.1, hl, Nat.add_mul]
  have hmax : n + m ≤ 9223372036854775807 := by have := hf.1; unfold maxLen at this; omega
  have hnx := firstCells_rd (P := P) hrx
  have hnx' := firstCells_rd (P := P) (w := w.drew) hrx
  have grown : ∀ old, old < n + m →
      Own (w.drew.alloc (.cells (xs.toArray ++ news.toArray ++ Builtin.zeroCells z.cells (grownCap w (n + m) old e - (n + m))) e)) e i.size
        (.slice (some ⟨w.heap.size, 0, none⟩) (n + m) (grownCap w (n + m) old e)) (n + m) (xs ++ news) := by
    intro old ho
    have hge := grownCap_ge w (n + m) old e
    have hcm : grownCap w (n + m) old e ≤ maxLen := grownCap_le_maxLen w (n + m) old e hf.1
    refine ⟨hlen, .inr ⟨w.heap.size, 0, _, _, rfl, heap_alloc_new w.drew _, hge, hcm, ?_, ?_⟩⟩
    · simp only [Array.size_append, List.size_toArray, size_zeroCells, S.zs, hown.1, hl, ← Nat.add_mul]
      rw [show n + m + (grownCap w (n + m) old e - (n + m)) = grownCap w (n + m) old e from by omega]
      omega
    · simp only [Array.toList_append, List.append_assoc, List.drop_zero]
      rw [← List.append_assoc, ← hlen]
      exact List.take_left
  have kgrown : ∀ (o : Obj) (F : Nat → Prop), Kept F w (w.drew.alloc o) := fun o F => ((Kept.refl F w).drew).alloc o
  rcases hown.2 with ⟨rfl, rfl⟩ | ⟨g, off, cap, cur, rfl, hg, hnc, hcm, hcs, htake⟩
  · have hx0 : xs = [] := List.eq_nil_of_length_eq_zero (by simpa using hown.1)
    subst hx0
    by_cases hm : m = 0
    · subst hm
      have hn : news = [] := List.eq_nil_of_length_eq_zero (by simpa using hl)
      subst hn
      refine ⟨.slice none 0 0, w, ?_, Own.nil _ _ _, Kept.refl _ _, by simp [Value.ownBlock], by simp, Own.nil _ _ _, .inl ⟨none, 0, rfl, rfl⟩⟩
      simp [Builtin.append_, run_underlying ht, sizeOf, typeInfo, hi, Builtin.lenOf, hnx]
    · have hgr := grown 0 (by omega)
      have h48 := hf.2 0 (by omega)
      simp only [Nat.zero_add, List.nil_append, Array.empty_append] at hgr ⊢ h48
      refine ⟨_, _, ?_, hgr, kgrown _ _, by simp [Value.ownBlock], by simp [hm], Own.nil _ _ _, .inr (by simp [Value.ownBlock])⟩
      have h63' : ¬ (9223372036854775807 < (m : Int)) := by omega
      have h48' : ¬ (281474976710656 < Builtin.nextslicecap m 0 * i.bytes) := by omega
      simp [Builtin.append_, run_underlying ht, sizeOf, typeInfo, zeroValue, hi, hz, Builtin.lenOf, hm, h63', h48', Question.forced, run_firstCells_none, hnx', newRow, grownCap]
  · by_cases hroom : n + m ≤ cap
    · have hfit : off + n * i.size + 0 + news.length ≤ cur.size := by
        rw [hl]
        have : (n + m) * i.size ≤ cap * i.size := Nat.mul_le_mul_right _ hroom
        rw [Nat.add_mul] at this
        omega
      have hst := run_storeCells_at P g (off + n * i.size) e news 0 cur w hg hfit h1
      simp only [Nat.add_zero] at hst
      refine ⟨_, w.setRow g (cur.toList.take (off + n * i.size) ++ news ++ cur.toList.drop (off + n * i.size + news.length)).toArray, ?_, ⟨hlen, .inr ⟨g, off, cap, _, rfl, setRow_heap w g cur _ e _ hg, hroom, hcm, ?_, ?_⟩⟩, ⟨rfl, rfl, rfl, by simp, fun k _ hk => setRow_other w g k _ (fun e => hk (by simp [Value.ownBlock, e]))⟩, by simp [Value.ownBlock], by simp, ⟨hown.1, .inr ⟨g, off, cap, _, rfl, setRow_heap w g cur _ e _ hg, hnc, hcm, ?_, ?_⟩⟩, .inl ⟨_, _, rfl, rfl⟩⟩
      · simp [Builtin.append_, run_underlying ht, sizeOf, typeInfo, hi, Builtin.lenOf, hroom, hnx, Addr.add_lit, hst]
      · simp only [List.size_toArray, List.length_append, List.length_take, List.length_drop, Array.length_toList]
        omega
      · have e1 : cur.toList.take (off + n * i.size) = cur.toList.take off ++ xs := by
          rw [← htake, List.take_add]
        simp only [e1]
        have e2 : (cur.toList.take off).length = off := by
          rw [List.length_take, Array.length_toList]; omega
        rw [List.append_assoc, List.append_assoc, List.drop_append_of_le_length (by omega), List.drop_of_length_le (by omega), List.nil_append, ← List.append_assoc, ← hlen]
        exact List.take_left
      · simp only [List.size_toArray, List.length_append, List.length_take, List.length_drop, Array.length_toList]
        omega
      · have e1 : cur.toList.take (off + n * i.size) = cur.toList.take off ++ xs := by
          rw [← htake, List.take_add]
        simp only [e1]
        have e2 : (cur.toList.take off).length = off := by
          rw [List.length_take, Array.length_toList]; omega
        rw [List.append_assoc, List.append_assoc, List.drop_append_of_le_length (by omega), List.drop_of_length_le (by omega), List.nil_append, ← hown.1]
        exact List.take_left
    · have hfo : (Builtin.firstCells i.size n (.slice (some ⟨g, off, none⟩) n cap)).run P w.drew = .ok xs.toArray w.drew := firstCells_rd (w := w.drew) hown.rd
      have hgr := grown cap (by omega)
      have h48 := hf.2 cap (by omega)
      refine ⟨_, _, ?_, hgr, kgrown _ _, by simp [Value.ownBlock], by simp, (hown.drew).alloc _, .inr (by simp [Value.ownBlock])⟩
      have h63' : ¬ (9223372036854775807 < (n : Int) + (m : Int)) := by omega
      have h48' : ¬ (281474976710656 < Builtin.nextslicecap (n + m) cap * i.bytes) := by omega
      simp [Builtin.append_, run_underlying ht, sizeOf, typeInfo, zeroValue, hi, hz, Builtin.lenOf, hroom, h63', h48', Question.forced, hnx', hfo, newRow, grownCap]
      rw [← List.append_toArray, Array.append_assoc]

theorem run_append_gen {P : Program} {T e : TypeId} {z : Value} {sz bytes : Nat} (S : SlT P T e z sz bytes) (ty : TypeId) {w : World} {v vx : Value} {n m : Nat} {xs news : List Value}
    (hown : Own w e sz v n xs) (hx : Rd w sz vx m news) (h1 : ∀ u ∈ news, u.oneCell' = true) (hf : Fits (n + m) bytes) :
    ∃ v' w', (Builtin.append_ #[T, T] ty #[v, vx]).run P w = .ok v' w' ∧ Own w' e sz v' (n + m) (xs ++ news) ∧ Kept (fun b => v.ownBlock = some b) w w' ∧
      (∀ b, v'.ownBlock = some b → v.ownBlock = some b ∨ w.heap.size ≤ b) ∧ (v' = .slice none 0 0 ↔ v = .slice none 0 0 ∧ m = 0) := by
  obtain ⟨v', w', r1, r2, r3, r4, r5, _, _⟩ := run_append_full S ty hown hx h1 hf
  exact ⟨v', w', r1, r2, r3, r4, r5⟩

/-- The same as a step of the walk; the old slice holds what it held. -/
theorem wpList_append_old {P : Program} {T e : TypeId} {z : Value} {sz bytes : Nat} (S : SlT P T e z sz bytes) {w : World} {ops : Array Oper} {rest : List Oper} {o : Oper} {a : Act} {Q : Exit → Act → World → Prop}
    (hgd : o.guard = none) (s x : Operand) (ho : o.op = .call { callee := .builtin .append, args := #[s, x], argTypes := #[T, T] }) {v vx : Value} {n m : Nat} {xs news : List Value}
    (hs : a.eval s = v) (hvx : a.eval x = vx) (hown : Own w e sz v n xs) (hx : Rd w sz vx m news) (h1 : ∀ u ∈ news, u.oneCell' = true) (hf : Fits (n + m) bytes)
    (h : ∀ v' w', Own w' e sz v' (n + m) (xs ++ news) → Kept (fun b => v.ownBlock = some b) w w' → (∀ b, v'.ownBlock = some b → v.ownBlock = some b ∨ w.heap.size ≤ b) → Own w' e sz v n xs → ((∃ a c, v = .slice a n c ∧ v' = .slice a (n + m) c) ∨ ∀ b, v'.ownBlock = some b → w.heap.size ≤ b) →
      wpList P ops Q rest (a.put o.dst v') w') : wpList P ops Q (o :: rest) a w := by
  refine wpList_plain hgd fun K hK => ?_
  obtain ⟨v', w', hr, h2, h3, h4, _, h6, h7⟩ := run_append_full (P := P) S o.type hown hx h1 hf
  unfold Oper.wp execOp
  simp only [ho, resolve, invoke, builtin, Sem.run_bind, Sem.run_pure, Result.andThen_ok, List.map_toArray, List.map_cons, List.map_nil, hs, hvx, hr]
  exact hK _ _ (h v' w' h2 h3 h4 h6 h7)

/-- The same as a step of the walk. -/
theorem wpList_append {P : Program} {T e : TypeId} {z : Value} {sz bytes : Nat} (S : SlT P T e z sz bytes) {w : World} {ops : Array Oper} {rest : List Oper} {o : Oper} {a : Act} {Q : Exit → Act → World → Prop}
    (hgd : o.guard = none) (s x : Operand) (ho : o.op = .call { callee := .builtin .append, args := #[s, x], argTypes := #[T, T] }) {v vx : Value} {n m : Nat} {xs news : List Value}
    (hs : a.eval s = v) (hvx : a.eval x = vx) (hown : Own w e sz v n xs) (hx : Rd w sz vx m news) (h1 : ∀ u ∈ news, u.oneCell' = true) (hf : Fits (n + m) bytes)
    (h : ∀ v' w', Own w' e sz v' (n + m) (xs ++ news) → Kept (fun b => v.ownBlock = some b) w w' → (∀ b, v'.ownBlock = some b → v.ownBlock = some b ∨ w.heap.size ≤ b) → (v' = .slice none 0 0 ↔ v = .slice none 0 0 ∧ m = 0) →
      wpList P ops Q rest (a.put o.dst v') w') : wpList P ops Q (o :: rest) a w := by
  refine wpList_plain hgd fun K hK => ?_
  obtain ⟨v', w', hr, h2, h3, h4, h5⟩ := run_append_gen (P := P) S o.type hown hx h1 hf
  unfold Oper.wp execOp
  simp only [ho, resolve, invoke, builtin, Sem.run_bind, Sem.run_pure, Result.andThen_ok, List.map_toArray, List.map_cons, List.map_nil, hs, hvx, hr]
  exact hK _ _ (h v' w' h2 h3 h4 h5)

/-- The same as a step of a region that draws its order. -/
theorem step_append {P : Program} {T e : TypeId} {z : Value} {sz bytes : Nat} (S : SlT P T e z sz bytes) {w : World} {ops : Array Oper} {o : Oper} {a : Act} {K : Act → World → Prop} {Q : Exit → Act → World → Prop} {E : Prop}
    (hgd : o.guard = none) (s x : Operand) (ho : o.op = .call { callee := .builtin .append, args := #[s, x], argTypes := #[T, T] }) {v vx : Value} {n m : Nat} {xs news : List Value}
    (hs : a.eval s = v) (hvx : a.eval x = vx) (hown : Own w e sz v n xs) (hx : Rd w sz vx m news) (h1 : ∀ u ∈ news, u.oneCell' = true) (hf : Fits (n + m) bytes)
    (h : ∀ v' w', Own w' e sz v' (n + m) (xs ++ news) → Kept (fun b => v.ownBlock = some b) w w' → (∀ b, v'.ownBlock = some b → v.ownBlock = some b ∨ w.heap.size ≤ b) → K (a.put o.dst v') w') :
    if Region.wanted o (yielded ops a.tmps) = true then Oper.wp P o a w K Q else E := by
  have hw : Region.wanted o (yielded ops a.tmps) = true := by simp [Region.wanted, hgd]
  rw [if_pos hw]
  obtain ⟨v', w', hr, h2, h3, h4, _⟩ := run_append_gen (P := P) S o.type hown hx h1 hf
  unfold Oper.wp execOp
  simp only [ho, resolve, invoke, builtin, Sem.run_bind, Sem.run_pure, Result.andThen_ok, List.map_toArray, List.map_cons, List.map_nil, hs, hvx, hr]
  exact h v' w' h2 h3 h4

/-! ### Maps, as lists of pairs in the order in which the keys came -/

/-- The keys K of type k can be looked for and stored. -/
structure KeyOk (P : Program) (k : TypeId) (K : Value → Prop) : Prop where
  check : ∀ (w : World) (em : Bool) {v : Value}, K v → (Instr.checkKey em 10000 k v).run P w = .ok () w
  find : ∀ (w : World) {x : Value}, K x → ∀ es : List MapEntry, (∀ e ∈ es, K e.key) →
    ((Instr.findKey k x es).run P w = .ok none w ∧ ∀ e ∈ es, e.key ≠ x) ∨ ∃ j e, (Instr.findKey k x es).run P w = .ok (some (j, e.val)) w ∧ es[j]? = some e ∧ e.key = x
  stays : ∀ (w : World) {v : Value}, K v → (Instr.keyThatStays v v).run P w = .ok v w

theorem KeyOk.of_keyed {P : Program} {k : TypeId} (K : Maps.Keyed P k) : KeyOk P k (fun v => ∃ l, keyOf P k v = some l) :=
  ⟨fun w em _ ⟨_, h⟩ => K.check w em h, fun w _ ⟨_, h⟩ es hes => K.find w h es hes, fun w _ ⟨_, h⟩ => K.stays w h⟩

theorem KeyOk.sub {P : Program} {k : TypeId} {K K' : Value → Prop} (h : KeyOk P k K) (hs : ∀ v, K' v → K v) : KeyOk P k K' :=
  ⟨fun w em _ hv => h.check w em (hs _ hv), fun w _ hx es hes => h.find w (hs _ hx) es (fun e he => hs _ (hes e he)), fun w _ hv => h.stays w (hs _ hv)⟩

def MapIs (w : World) (K : Value → Prop) (b : Nat) (m : List (Value × Value)) : Prop :=
  ∃ es clock, w.heap[b]? = some (.map es clock) ∧ es.toList.map (fun e => (e.key, e.val)) = m ∧ ∀ e ∈ es.toList, K e.key

theorem MapIs.lt {w : World} {K : Value → Prop} {b : Nat} {m : List (Value × Value)} (h : MapIs w K b m) : b < w.heap.size := by
  obtain ⟨_, _, h, _⟩ := h
  exact heap_lt h

theorem MapIs.kept {w w' : World} {K : Value → Prop} {b : Nat} {m : List (Value × Value)} (h : MapIs w K b m) (hk : w'.heap[b]? = w.heap[b]?) : MapIs w' K b m := by
  obtain ⟨es, c, h1, h2⟩ := h
  exact ⟨es, c, hk.trans h1, h2⟩

theorem MapIs.frame {w w' : World} {K : Value → Prop} {b : Nat} {m : List (Value × Value)} {F : Nat → Prop} (h : MapIs w K b m) (hk : Kept F w w') (hd : ¬ F b) : MapIs w' K b m :=
  h.kept (hk.block b h.lt hd)

theorem MapIs.made (w : World) (K : Value → Prop) : MapIs (w.alloc (.map #[] 0)) K w.heap.size [] :=
  ⟨#[], 0, heap_alloc_new _ _, rfl, by simp⟩

theorem MapIs.keys {w : World} {K : Value → Prop} {b : Nat} {m : List (Value × Value)} (h : MapIs w K b m) : ∀ p ∈ m, K p.1 := by
  obtain ⟨es, c, _, rfl, h3⟩ := h
  intro p hp
  obtain ⟨e, he, rfl⟩ := List.mem_map.1 hp
  exact h3 e he

theorem MapIs.find {P : Program} {k : TypeId} {w : World} {K : Value → Prop} (KO : KeyOk P k K) {x : Value} (hx : K x) {es : Array MapEntry} {m : List (Value × Value)} (h2 : es.toList.map (fun e => (e.key, e.val)) = m) (h3 : ∀ e ∈ es.toList, K e.key) :
    ((Instr.findKey k x es.toList).run P w = .ok none w ∧ ∀ p ∈ m, p.1 ≠ x) ∨ ∃ (j : Nat) (v : Value), (Instr.findKey k x es.toList).run P w = .ok (some (j, v)) w ∧ m[j]? = some (x, v) := by
  subst h2
  rcases KO.find w hx es.toList h3 with ⟨h, hne⟩ | ⟨j, e, h, hj, hk⟩
  · refine .inl ⟨h, fun p hp => ?_⟩
    obtain ⟨e, he, rfl⟩ := List.mem_map.1 hp
    exact hne e he
  · exact .inr ⟨j, e.val, h, by simp [hj, hk]⟩

/-- 'v, ok := m[x]' and 'm[x]'. -/
theorem MapIs.lookup {P : Program} {T k e : TypeId} {w : World} {K : Value → Prop} (KO : KeyOk P k K) (hT : P.underlying T = some (.map k e)) {z : Value} (hz : (zeroValue e).run P w = .ok z w) {b : Nat} {m : List (Value × Value)}
    (h : MapIs w K b m) {x : Value} (hx : K x) (ok : Bool) :
    ((∀ p ∈ m, p.1 ≠ x) ∧ (Instr.lookup T (.map (some b)) x ok).run P w = .ok (if ok then .tuple #[z, .bool false] else z) w) ∨
    ∃ (j : Nat) (v : Value), m[j]? = some (x, v) ∧ (Instr.lookup T (.map (some b)) x ok).run P w = .ok (if ok then .tuple #[v, .bool true] else v) w := by
  obtain ⟨es, c, h1, h2, h3⟩ := h
  rcases MapIs.find (w := w) KO hx h2 h3 with ⟨hf, hne⟩ | ⟨j, v, hf, hj⟩
  · refine .inl ⟨hne, ?_⟩
    simp [Instr.lookup, run_underlying hT, MapKept.run_getObj_map h1, KO.check w _ hx, hf, hz, Result.andThen]
  · refine .inr ⟨j, v, hj, ?_⟩
    simp [Instr.lookup, run_underlying hT, MapKept.run_getObj_map h1, KO.check w _ hx, hf, Result.andThen]

theorem kept_setBlock (w : World) (b : Nat) (o : Obj) : Kept (fun i => i = b) w (ChangeMaps.setBlock w b o) :=
  ⟨rfl, rfl, rfl, by simp [ChangeMaps.setBlock], fun i _ hi => by simp [ChangeMaps.setBlock, Ne.symm hi]⟩

theorem heap_setBlock {w : World} {b : Nat} (hb : b < w.heap.size) (o : Obj) : (ChangeMaps.setBlock w b o).heap[b]? = some o := by
  simp [ChangeMaps.setBlock, hb]

/-- 'm[x] = v', x new. -/
theorem MapIs.store_new {P : Program} {T k e : TypeId} {w : World} {K : Value → Prop} (KO : KeyOk P k K) (hT : P.underlying T = some (.map k e)) {b : Nat} {m : List (Value × Value)}
    (h : MapIs w K b m) {x : Value} (hx : K x) (hn : ∀ p ∈ m, p.1 ≠ x) (v : Value) :
    ∃ w', (Instr.mapUpdate T (.map (some b)) x v).run P w = .ok () w' ∧ MapIs w' K b (m ++ [(x, v)]) ∧ Kept (fun i => i = b) w w' := by
  obtain ⟨es, c, h1, h2, h3⟩ := h
  rcases MapIs.find (w := w) KO hx h2 h3 with ⟨hf, hne⟩ | ⟨j, u, hf, hj⟩
  · refine ⟨ChangeMaps.setBlock w b (.map (es.push { key := x, val := v, born := c }) (c + 1)), ?_, ⟨_, _, heap_setBlock (heap_lt h1) _, ?_, ?_⟩, kept_setBlock _ _ _⟩
    · simp [Instr.mapUpdate, run_underlying hT, MapKept.run_getObj_map h1, KO.check w _ hx, hf, MapKept.run_setObj_map _ h1, Result.andThen, ChangeMaps.setBlock]
    · simp [h2]
    · intro e he
      simp only [Array.toList_push, List.mem_append, List.mem_singleton] at he
      rcases he with he | rfl
      · exact h3 e he
      · exact hx
  · exact absurd rfl (hn (x, u) (List.mem_of_getElem? hj))

/-- 'm[x] = v', whatever x. -/
theorem MapIs.store_any {P : Program} {T k e : TypeId} {w : World} {K : Value → Prop} (KO : KeyOk P k K) (hT : P.underlying T = some (.map k e)) {b : Nat} {m : List (Value × Value)}
    (h : MapIs w K b m) {x : Value} (hx : K x) (v : Value) :
    ∃ w' m', (Instr.mapUpdate T (.map (some b)) x v).run P w = .ok () w' ∧ MapIs w' K b m' ∧ Kept (fun i => i = b) w w' ∧
      (((∀ p ∈ m, p.1 ≠ x) ∧ m' = m ++ [(x, v)]) ∨ ∃ j u, m[j]? = some (x, u) ∧ m' = m.set j (x, v)) := by
  obtain ⟨es, c, h1, h2, h3⟩ := h
  rcases MapIs.find (w := w) KO hx h2 h3 with ⟨hf, hne⟩ | ⟨j, u, hf, hj⟩
  · obtain ⟨w', r1, r2, r3⟩ := MapIs.store_new KO hT ⟨es, c, h1, h2, h3⟩ hx hne v
    exact ⟨w', _, r1, r2, r3, .inl ⟨hne, rfl⟩⟩
  · have hj' : ∃ en, es.toList[j]? = some en ∧ en.key = x ∧ en.val = u := by
      rw [← h2, List.getElem?_map, Option.map_eq_some_iff] at hj
      obtain ⟨en, h4, h5⟩ := hj
      simp only [Prod.mk.injEq] at h5
      exact ⟨en, h4, h5.1, h5.2⟩
    obtain ⟨en, h4, h5, h6⟩ := hj'
    have hes : es[j]? = some en := by simpa using h4
    refine ⟨ChangeMaps.setBlock w b (.map (es.modify j fun e => { e with key := x, val := v }) c), m.set j (x, v), ?_, ⟨_, _, heap_setBlock (heap_lt h1) _, ?_, ?_⟩, kept_setBlock _ _ _, .inr ⟨j, u, hj, rfl⟩⟩
    · simp [Instr.mapUpdate, run_underlying hT, MapKept.run_getObj_map h1, KO.check w _ hx, hf, hes, h5, KO.stays w hx, MapKept.run_setObj_map _ h1, Result.andThen, ChangeMaps.setBlock]
    · subst h2
      apply List.ext_getElem?
      intro i
      simp only [List.getElem?_map, Array.getElem?_toList, Array.getElem?_modify, List.getElem?_set, List.length_map, Array.length_toList]
      by_cases hij : j = i
      · subst hij
        have : j < es.size := (Array.getElem?_eq_some_iff.1 hes).1
        simp [this]
      · simp [hij]
    · intro e he
      obtain ⟨i, hi⟩ := List.mem_iff_getElem?.1 he
      simp only [Array.getElem?_toList, Array.getElem?_modify] at hi
      by_cases hij : j = i
      · subst hij
        simp [hes] at hi
        subst hi
        exact hx
      · simp [hij] at hi
        exact h3 e (List.mem_iff_getElem?.2 ⟨i, by simpa using hi⟩)

/-- 'delete(m, x)'. -/
theorem MapIs.delete {P : Program} {T k e : TypeId} {w : World} {K : Value → Prop} (KO : KeyOk P k K) (hT : P.underlying T = some (.map k e)) {b : Nat} {m : List (Value × Value)}
    (h : MapIs w K b m) {x : Value} (hx : K x) (ty : TypeId) :
    ∃ w' m', (Builtin.delete_ #[T, k] ty #[.map (some b), x]).run P w = .ok (.tuple #[]) w' ∧ MapIs w' K b m' ∧ Kept (fun i => i = b) w w' ∧
      (((∀ p ∈ m, p.1 ≠ x) ∧ m' = m) ∨ ∃ j u, m[j]? = some (x, u) ∧ m' = m.eraseIdx j) := by
  obtain ⟨es, c, h1, h2, h3⟩ := h
  rcases MapIs.find (w := w) KO hx h2 h3 with ⟨hf, hne⟩ | ⟨j, u, hf, hj⟩
  · refine ⟨ChangeMaps.setBlock w b (.map es c), m, ?_, ⟨_, _, heap_setBlock (heap_lt h1) _, h2, h3⟩, kept_setBlock _ _ _, .inl ⟨hne, rfl⟩⟩
    simp [Builtin.delete_, run_underlying hT, MapKept.run_getObj_map h1, KO.check w _ hx, hf, MapKept.run_setObj_map _ h1, Result.andThen, ChangeMaps.setBlock]
  · have hlt : j < es.size := by
      have := (List.getElem?_eq_some_iff.1 hj).1
      rw [← h2] at this
      simpa using this
    have htl : (es.eraseIdxIfInBounds j).toList = es.toList.eraseIdx j := by
      simp [Array.eraseIdxIfInBounds, hlt]
    refine ⟨ChangeMaps.setBlock w b (.map (es.eraseIdxIfInBounds j) c), m.eraseIdx j, ?_, ⟨_, _, heap_setBlock (heap_lt h1) _, ?_, ?_⟩, kept_setBlock _ _ _, .inr ⟨j, u, hj, rfl⟩⟩
    · simp [Builtin.delete_, run_underlying hT, MapKept.run_getObj_map h1, KO.check w _ hx, hf, MapKept.run_setObj_map _ h1, Result.andThen, ChangeMaps.setBlock]
    · rw [htl, ← h2]
      apply List.ext_getElem?
      intro i
      simp only [List.getElem?_map, List.getElem?_eraseIdx]
      split <;> rfl
    · intro e he
      rw [htl] at he
      exact h3 e (List.mem_of_mem_eraseIdx he)

/-- 'len(m)'. -/
theorem MapIs.len {P : Program} {T k e : TypeId} {w : World} {K : Value → Prop} (hT : P.underlying T = some (.map k e)) {b : Nat} {m : List (Value × Value)} (h : MapIs w K b m) (ty : TypeId) :
    (Builtin.len_ #[T] ty #[.map (some b)]).run P w = .ok (.int .i64 m.length) w := by
  obtain ⟨es, c, h1, rfl, _⟩ := h
  simp [Builtin.len_, run_underlying hT, MapKept.run_getObj_map h1, Result.andThen, goInt]

theorem keyOk_plain {P : Program} {k : TypeId} {d : TypeDesc} (hd : P.underlying k = some d) : KeyOk P k (MapKept.IsKey d) := by
  refine ⟨fun w em _ hv => MapKept.run_checkKey hd hv em 9999, fun w x hx es hes => ?_, fun w _ hv => MapKept.run_keyThatStays hv⟩
  rcases MapKept.findNow_spec hx es 0 hes with ⟨h1, h2⟩ | ⟨j, e, h1, h2, h3⟩
  · exact .inl ⟨MapKept.run_findKey hd h1, h2⟩
  · refine .inr ⟨j, e, MapKept.run_findKey hd (by simpa using h1), h2, h3⟩

section
variable {P : Program} {w : World} {ops : Array Oper} {rest : List Oper} {o : Oper} {a : Act} {Q : Exit → Act → World → Prop}

theorem wpList_lookup_run (hg : o.guard = none) (m x : Operand) {t : TypeId} {ok : Bool} (hop : o.op = Op.lookup t m x ok) {mv key v : Value} (hm : a.eval m = mv) (hx : a.eval x = key)
    (hrun : (Instr.lookup t mv key ok).run P w = .ok v w) (hK : wpList P ops Q rest (a.put o.dst v) w) : wpList P ops Q (o :: rest) a w := by
  refine wpList_plain hg fun K' hK' => ?_
  unfold Oper.wp
  simp [execOp, hop, hm, hx, hrun, Result.andThen]
  exact hK' _ _ hK

theorem wpList_store_new {T k e : TypeId} {K : Value → Prop} (KO : KeyOk P k K) (hT : P.underlying T = some (.map k e)) (hg : o.guard = none) (m x v : Operand) (hop : o.op = Op.mapUpdate T m x v) {b : Nat} {mm : List (Value × Value)} {key u : Value}
    (hm : a.eval m = .map (some b)) (hx : a.eval x = key) (hv : a.eval v = u) (h : MapIs w K b mm) (hk : K key) (hn : ∀ p ∈ mm, p.1 ≠ key)
    (hK : ∀ w', MapIs w' K b (mm ++ [(key, u)]) → Kept (fun i => i = b) w w' → wpList P ops Q rest (a.put o.dst undef) w') : wpList P ops Q (o :: rest) a w := by
  refine wpList_plain hg fun K' hK' => ?_
  obtain ⟨w', hrun, r1, r2⟩ := h.store_new KO hT hk hn u
  unfold Oper.wp
  simp [execOp, hop, hm, hx, hv, hrun, Result.andThen]
  exact hK' _ _ (hK w' r1 r2)

theorem wpList_store_any {T k e : TypeId} {K : Value → Prop} (KO : KeyOk P k K) (hT : P.underlying T = some (.map k e)) (hg : o.guard = none) (m x v : Operand) (hop : o.op = Op.mapUpdate T m x v) {b : Nat} {mm : List (Value × Value)} {key u : Value}
    (hm : a.eval m = .map (some b)) (hx : a.eval x = key) (hv : a.eval v = u) (h : MapIs w K b mm) (hk : K key)
    (hK : ∀ w' m', MapIs w' K b m' → Kept (fun i => i = b) w w' → (((∀ p ∈ mm, p.1 ≠ key) ∧ m' = mm ++ [(key, u)]) ∨ ∃ (j : Nat) (u' : Value), mm[j]? = some (key, u') ∧ m' = mm.set j (key, u)) → wpList P ops Q rest (a.put o.dst undef) w') :
    wpList P ops Q (o :: rest) a w := by
  refine wpList_plain hg fun K' hK' => ?_
  obtain ⟨w', m', hrun, r1, r2, r3⟩ := h.store_any KO hT hk u
  unfold Oper.wp
  simp [execOp, hop, hm, hx, hv, hrun, Result.andThen]
  exact hK' _ _ (hK w' m' r1 r2 r3)

theorem wpList_delete {T k e : TypeId} {K : Value → Prop} (KO : KeyOk P k K) (hT : P.underlying T = some (.map k e)) (hg : o.guard = none) (m x : Operand) (hop : o.op = Op.call { callee := Callee.builtin Builtin.delete, args := #[m, x], argTypes := #[T, k] }) {b : Nat} {mm : List (Value × Value)} {key : Value}
    (hm : a.eval m = .map (some b)) (hx : a.eval x = key) (h : MapIs w K b mm) (hk : K key)
    (hK : ∀ w' m', MapIs w' K b m' → Kept (fun i => i = b) w w' → (((∀ p ∈ mm, p.1 ≠ key) ∧ m' = mm) ∨ ∃ (j : Nat) (u' : Value), mm[j]? = some (key, u') ∧ m' = mm.eraseIdx j) → wpList P ops Q rest (a.put o.dst (.tuple #[])) w') :
    wpList P ops Q (o :: rest) a w := by
  refine wpList_plain hg fun K' hK' => ?_
  obtain ⟨w', m', hrun, r1, r2, r3⟩ := h.delete KO hT hk o.type
  unfold Oper.wp
  simp [execOp, hop, resolve, invoke, builtin, hm, hx, hrun, Result.andThen]
  exact hK' _ _ (hK w' m' r1 r2 r3)
end

/-! ### More on owned slices -/

/-- The first k of them: 's[:k]'. -/
theorem Own.sub {w : World} {e : TypeId} {sz : Nat} {a : Option Addr} {n c : Nat} {xs : List Value} (h : Own w e sz (.slice a n c) n xs) {k : Nat} (hk : k ≤ n) : Own w e sz (.slice a k c) k (xs.take (k * sz)) := by
  have hkn : k * sz ≤ n * sz := Nat.mul_le_mul_right _ hk
  refine ⟨by rw [List.length_take, h.1]; omega, ?_⟩
  rcases h.2 with ⟨hv, rfl⟩ | ⟨g, off, cap, cur, hv, hg, h1, h2, h3, h4⟩
  · obtain rfl : k = 0 := by omega
    simp only [Value.slice.injEq] at hv
    obtain ⟨rfl, _, rfl⟩ := hv
    exact .inl ⟨rfl, rfl⟩
  · simp only [Value.slice.injEq] at hv
    obtain ⟨rfl, _, rfl⟩ := hv
    refine .inr ⟨g, off, c, cur, rfl, hg, by omega, h2, h3, ?_⟩
    rw [← h4, List.take_take, Nat.min_eq_left hkn]

/-- What lies behind the first k: 's[k:]'. -/
theorem Own.tail {w : World} {e : TypeId} {sz : Nat} {a : Option Addr} {n c : Nat} {xs : List Value} (h : Own w e sz (.slice a n c) n xs) {k : Nat} (hk : k ≤ n) :
    Own w e sz (.slice (if c = k then a else a.map (·.add (k * sz))) (n - k) (c - k)) (n - k) (xs.drop (k * sz)) := by
  have hkn : k * sz ≤ n * sz := Nat.mul_le_mul_right _ hk
  refine ⟨by rw [List.length_drop, h.1, Nat.sub_mul], ?_⟩
  rcases h.2 with ⟨hv, rfl⟩ | ⟨g, off, cap, cur, hv, hg, h1, h2, h3, h4⟩
  · obtain rfl : k = 0 := by omega
    simp only [Value.slice.injEq] at hv
    obtain ⟨rfl, _, rfl⟩ := hv
    exact .inl ⟨by simp, by omega⟩
  · simp only [Value.slice.injEq] at hv
    obtain ⟨rfl, _, rfl⟩ := hv
    by_cases hck : c = k
    · subst hck
      obtain rfl : n = c := by omega
      refine .inr ⟨g, off, 0, cur, by simp, hg, by omega, Nat.zero_le _, by omega, ?_⟩
      have : xs.drop (n * sz) = [] := List.drop_of_length_le (by rw [h.1]; exact Nat.le_refl _)
      rw [this]
      simp
    · refine .inr ⟨g, off + k * sz, c - k, cur, by simp [hck, Addr.add_lit], hg, by omega, by omega, ?_, ?_⟩
      · rw [Nat.sub_mul]
        have : k * sz ≤ c * sz := Nat.mul_le_mul_right _ (by omega)
        omega
      · rw [← h4, List.drop_take, List.drop_drop, Nat.sub_mul]

/-- A cell of it written. -/
theorem Own.setAt {w : World} {e : TypeId} {sz g off n c : Nat} {xs : List Value} (h : Own w e sz (.slice (some ⟨g, off, none⟩) n c) n xs) {j : Nat} (hj : j < n * sz) (u : Value) :
    Own (w.setCell ⟨g, off + j, none⟩ u) e sz (.slice (some ⟨g, off, none⟩) n c) n (xs.set j u) := by
  refine ⟨by rw [List.length_set, h.1], ?_⟩
  rcases h.2 with ⟨hv, _⟩ | ⟨g', off', cap, cur, hv, hg, h1, h2, h3, h4⟩
  · simp at hv
  · simp only [Value.slice.injEq, Option.some.injEq, Addr.mk.injEq, and_true, true_and] at hv
    obtain ⟨⟨rfl, rfl⟩, rfl⟩ := hv
    refine .inr ⟨g, off, c, _, rfl, heap_set hg u, h1, h2, by simpa using h3, ?_⟩
    have hlt : n * sz ≤ c * sz := Nat.mul_le_mul_right _ h1
    rw [← h4, Array.toList_setIfInBounds]
    apply List.ext_getElem?
    intro i
    simp only [List.getElem?_take, List.getElem?_drop, List.getElem?_set, List.length_take, List.length_drop, Array.length_toList, List.length_set]
    by_cases hi : i < n * sz
    · rw [if_pos hi]
      by_cases hij : j = i
      · subst hij
        have e1 : off + j < cur.size := by omega
        have e2 : j < min (n * sz) (cur.size - off) := by omega
        simp [e1, e2]
      · have : ¬ off + j = off + i := by omega
        simp [hij, this, hi]
    · have : ¬ j = i := by omega
      simp [hi, this]

end Go.Proofs.Ytllcklddfcclfaa
