/- order.graphOf at one type of things. -/
import Derived.Test.YtncloielmfplpaaMem5
import Derived.Test.YtncloielmfplpaaMakeIs
import Derived.Test.YtncloielmfplpaaIdxI
import Derived.Deep.QuietTactic
import Derived.Deep.SlicePairs
import Derived.Deep.RegionLaw
import Derived.BigQuiet
import Derived.StillTailTactics
import Derived.IntWalk
namespace Go.Proofs.Ytncloielmfplpaa
open Go.RowKit
set_option linter.unusedVariables false
set_option linter.unusedSimpArgs false

/-- A pair in cells. -/
def encPrI (u : Int × Int) : Value := .agg #[encI u.1, encI u.2]

theorem prCellsI (us : List (Int × Int)) {k : Nat} (hk : k < us.length) : (cellsOf encPrI us)[k * 2]? = some (encI us[k].1) ∧ (cellsOf encPrI us)[k * 2 + 1]? = some (encI us[k].2) := by
  induction us generalizing k with
  | nil => simp at hk
  | cons x xs ih =>
    show ((encPrI x).cells.toList ++ cellsOf encPrI xs)[k * 2]? = _ ∧ ((encPrI x).cells.toList ++ cellsOf encPrI xs)[k * 2 + 1]? = _
    have hl : (encPrI x).cells.toList = [encI x.1, encI x.2] := rfl
    rw [hl]
    cases k with
    | zero => exact ⟨rfl, rfl⟩
    | succ k =>
      have := ih (k := k) (by simpa using hk)
      rw [List.getElem?_append_right (by simp; omega), List.getElem?_append_right (by simp; omega)]
      simp only [List.length_cons, List.length_nil, List.getElem_cons_succ]
      rw [show (k + 1) * 2 - (0 + 1 + 1) = k * 2 by omega, show (k + 1) * 2 + 1 - (0 + 1 + 1) = k * 2 + 1 by omega]
      exact this

theorem rdPrI {w : World} {ad : Addr} {n c : Nat} {us : List (Int × Int)} (h : Rd w 2 (.slice (some ad) n c) us.length (cellsOf encPrI us)) {k : Nat} (hk : k < us.length) :
    w.cell? (ad.add (k * 2)) = some (encI us[k].1) ∧ w.cell? ⟨(ad.add (k * 2)).block, (ad.add (k * 2)).off + 1, none⟩ = some (encI us[k].2) := by
  obtain ⟨_, a, c', h1, _, _, _, h5⟩ := h
  cases h1
  have e := prCellsI us hk
  have e1 := h5 ad rfl _ _ e.1
  have e2 := h5 ad rfl _ _ e.2
  rw [← Go.Deep.add_add, show (ad.add (k * 2)).add 1 = ⟨(ad.add (k * 2)).block, (ad.add (k * 2)).off + 1, none⟩ by rw [Addr.add, if_neg (by omega)]] at e2
  exact ⟨e1, e2⟩

theorem cellsEncI (xs : List (Int)) : cellsOf encI xs = xs.map encI := by
  induction xs with
  | nil => rfl
  | cons x xs ih => show (encI x).cells.toList ++ cellsOf encI xs = _; rw [ih]; rfl

theorem rdOneI {w : World} {ad : Addr} {n c : Nat} {xs : List (Int)} (h : Rd w 1 (.slice (some ad) n c) xs.length (cellsOf encI xs)) {k : Nat} (hk : k < xs.length) : w.cell? (ad.add k) = some (encI xs[k]) := by
  obtain ⟨_, a, c', h1, _, _, _, h5⟩ := h
  cases h1
  have e : (cellsOf encI xs)[k]? = some (encI xs[k]) := by
    rw [cellsEncI]
    simp [hk]
  exact h5 ad rfl _ _ e

/-- The graph in the making. -/
structure GMemI (w wr : World) (gb : Nat) (nv uv ip : Value) (FI F : Nat → Prop) (nodes : List (Int)) (A : List (Nat × Nat)) : Prop where
  cellg : wr.heap[gb]? = some (.cells #[nv, uv] 54 (0, 0))
  idx : IdxI wr ip FI nodes
  ls : LsN wr uv F (adjP nodes.length A)
  dg : ¬ F gb ∧ ¬ FI gb ∧ w.heap.size ≤ gb
  dis : ∀ b, F b → ¬ FI b
  fb : ∀ b, F b → w.heap.size ≤ b
  ib : ∀ b, FI b → w.heap.size ≤ b
  kept : Kept (fun b => w.heap.size ≤ b) w wr

theorem GMemI.same {w wr w' : World} {gb : Nat} {nv uv ip : Value} {FI F : Nat → Prop} {nodes : List (Int)} {A : List (Nat × Nat)} (h : GMemI w wr gb nv uv ip FI F nodes A) (hk : Kept (fun _ => False) wr w') : GMemI w w' gb nv uv ip FI F nodes A :=
  ⟨(hk.block gb (heap_lt h.cellg) id).trans h.cellg, h.idx.frame hk (fun _ _ => id), h.ls.frame hk (fun _ _ => id), h.dg, h.dis, h.fb, h.ib, h.kept.trans' hk (fun _ _ h => h.elim)⟩

/-- One pair more. -/
theorem GMemI.put {w wr w2 : World} {gb : Nat} {nv uv ip : Value} {FI F : Nat → Prop} {nodes : List (Int)} {A : List (Nat × Nat)} {o : Obj} (h : GMemI w wr gb nv uv ip FI F nodes A) {i j : Nat} (hi : i < nodes.length) {g off n c : Nat} (huv : uv = .slice (some ⟨g, off, none⟩) n c) {v v2 : Value} (hc : wr.cell? ⟨g, off + i, none⟩ = some v)
    (hk : Kept (fun b => v.ownBlock = some b) (wr.alloc o) w2) (ho : Own w2 3 1 v2 ((adjP nodes.length A)[i]'(by rw [adjP_length]; exact hi) ++ [j]).length (cellsOf encN ((adjP nodes.length A)[i]'(by rw [adjP_length]; exact hi) ++ [j]))) (hb2 : ∀ b, v2.ownBlock = some b → v.ownBlock = some b ∨ (wr.alloc o).heap.size ≤ b) :
    ∃ F', GMemI w (w2.setCell ⟨g, off + i, none⟩ v2) gb nv uv ip FI F' nodes (A ++ [(i, j)]) := by
  have hi' : i < (adjP nodes.length A).length := by rw [adjP_length]; exact hi
  have hs := h.same ((Kept.refl _ wr).alloc o)
  have hc' : (wr.alloc o).cell? ⟨g, off + i, none⟩ = some v := ((Kept.refl (fun _ => False) wr).alloc o).cell hc id
  obtain ⟨F', r1, r2, r3⟩ := hs.ls.put hi' huv hc' hk ho hb2
  rw [← adjP_snoc A hi'] at r1
  refine ⟨F', (r2.block gb (heap_lt hs.cellg) hs.dg.1).trans hs.cellg, hs.idx.frame r2 (fun b hb hf => hs.dis b hf hb), r1, ⟨fun hf => ?_, hs.dg.2⟩, fun b hf hb => ?_, fun b hf => ?_, hs.ib, hs.kept.trans' r2 (fun i hi h => hs.fb i h)⟩
  · rcases r3 gb hf with h1 | h1
    · exact hs.dg.1 h1
    · have := heap_lt hs.cellg; omega
  · rcases r3 b hf with h1 | h1
    · exact hs.dis b h1 hb
    · have := hs.idx.lt hb; omega
  · rcases r3 b hf with h1 | h1
    · exact hs.fb b h1
    · have := hs.kept.size; omega

theorem errTwiceI {nodes : List (Int)} {uses : List (Int × Int)} {k : Nat} (hk : k < nodes.length) (h : nodes[k] ∈ nodes.take k) : errOf nodes uses = 5 := by
  unfold errOf
  rw [if_neg]
  intro hnd
  obtain ⟨j, hj, e⟩ := List.mem_iff_getElem.1 h
  rw [List.getElem_take] at e
  simp only [List.length_take] at hj
  have := (List.getElem_inj hnd).1 e
  omega

theorem errNoneI {nodes : List (Int)} {uses : List (Int × Int)} (hnd : nodes.Nodup) {k : Nat} (hk : k < uses.length) (h : uses[k].1 ∉ nodes ∨ uses[k].2 ∉ nodes) : errOf nodes uses = 6 := by
  unfold errOf
  rw [if_pos hnd, if_neg]
  intro hall
  have := hall _ (List.getElem_mem hk)
  rcases h with h | h
  · exact h this.1
  · exact h this.2

theorem errOkI {nodes : List (Int)} {uses : List (Int × Int)} (hnd : nodes.Nodup) (h : ∀ u ∈ uses, u.1 ∈ nodes ∧ u.2 ∈ nodes) : errOf nodes uses = 0 := by
  unfold errOf
  rw [if_pos hnd, if_pos h]

theorem take_nodupI {nodes : List (Int)} {k : Nat} (hk : k < nodes.length) (h : (nodes.take k).Nodup) (hn : nodes[k] ∉ nodes.take k) : (nodes.take (k + 1)).Nodup ∧ putK (nodes.take k) nodes[k] = nodes.take (k + 1) ∧ (nodes.take k).idxOf nodes[k] = k := by
  rw [List.take_succ_eq_append_getElem hk]
  refine ⟨?_, by simp [putK, hn], by rw [List.idxOf_eq_length hn, List.length_take]; omega⟩
  rw [List.nodup_append]
  exact ⟨h, by simp, fun a ha b hb e => by simp at hb; subst hb; subst e; exact hn ha⟩

theorem idxFindYI {w : World} {p : Value} {F : Nat → Prop} {ks : List (Int)} (h : IdxI w p F ks) {k : Int} (hk : k ∈ ks) :
    Calls Try.prog 28 #[p, encI k] w fun e w' => e = .returned (.tuple #[.int .i64 (ks.idxOf k : Nat), .int .i64 0]) ∧ w = w' := by
  have := idxFindI h k
  rwa [if_pos hk, if_pos hk] at this

theorem idxFindNI {w : World} {p : Value} {F : Nat → Prop} {ks : List (Int)} (h : IdxI w p F ks) {k : Int} (hk : k ∉ ks) :
    Calls Try.prog 28 #[p, encI k] w fun e w' => e = .returned (.tuple #[.int .i64 0, .int .i64 6]) ∧ w = w' := by
  have := idxFindI h k
  rwa [if_neg hk, if_neg hk] at this

/-- The graph's cell stored as it was. -/
theorem storedBackI {w : World} {gb : Nat} {a b : Value} (h : w.heap[gb]? = some (.cells #[a, b] 54 (0, 0))) :
    ((w.setCell ⟨gb, 0, none⟩ a).setCell ⟨gb, 1, none⟩ b).heap[gb]? = some (.cells #[a, b] 54 (0, 0)) := by
  have e1 := heap_set (o := 0) h a
  have e2 := heap_set (o := 1) e1 b
  simpa using e2

set_option maxRecDepth 100000 in
set_option maxHeartbeats 4000000 in
theorem graphOfI {w : World} {nv uv : Value} {nodes : List (Int)} {uses : List (Int × Int)} (hn : Rd w 1 nv nodes.length (cellsOf encI nodes)) (hu : Rd w 2 uv uses.length (cellsOf encPrI uses)) (h1 : nodes.length ≤ 100) (h2 : uses.length ≤ 1000) :
    Calls Try.prog 27 #[nv, uv] w fun e w' => ∃ g0 g1 ip, e = .returned (.tuple #[.agg #[g0, g1], ip, .int .i64 (errOf nodes uses)]) ∧ Kept (fun _ => False) w w' ∧ (∃ a n c, g0 = .slice a n c) ∧ (∃ a n c, g1 = .slice a n c) ∧
      (errOf nodes uses = 0 → nodes.Nodup ∧ (∀ u ∈ uses, u.1 ∈ nodes ∧ u.2 ∈ nodes) ∧ g0 = nv ∧ ∃ F FI b, ip = .pointer (some ⟨b, 0, none⟩) ∧ LsN w' g1 F (graphL nodes uses) ∧ IdxI w' ip FI nodes ∧ (∀ b, F b → w.heap.size ≤ b)) := by
  obtain ⟨na, nc, rfl, n1, n2, n3⟩ := hn.2
  obtain ⟨ua, uc, rfl, u1, u2, u3⟩ := hu.2
  have N3 := Lib.hid n3.1
  have U3 := Lib.hid u3.1
  have HN := Lib.hid hn
  have HU := Lib.hid hu
  unfold maxLen at n2 u2
  clear n3 u3 hn hu
  go_enter Try.func27, Try.ntmps27
  go_wp2_with fail
  refine (idxNewI (w.alloc (.cells #[.slice none 0 0, .slice none 0 0] 54))).mono ?_
  rintro e w1 ⟨p, F0, rfl, hI0, hk0, hF0, ib, rfl⟩
  obtain ⟨gb, hgb⟩ : ∃ gb, gb = w.heap.size := ⟨_, rfl⟩
  have hcg : w1.heap[gb]? = some (.cells #[.slice none 0 0, .slice none 0 0] 54 (0, 0)) := by
    rw [hgb]
    exact (hk0.block w.heap.size (by simp) id).trans (heap_alloc_new w _)
  have HS0 : Hid (w1.heap[gb]? = some (.cells #[.slice none 0 0, .slice none 0 0] 54 (0, 0)) ∧ Kept (fun b => w.heap.size ≤ b) w w1 ∧ ∃ FI, IdxI w1 (.pointer (some ⟨ib, 0, none⟩)) FI (nodes.take 0) ∧ (nodes.take 0).Nodup ∧ (∀ b, FI b → w.heap.size ≤ b) ∧ ¬ FI gb) :=
    Lib.hid ⟨hcg, ((Kept.refl _ w).alloc _).trans' hk0 (fun _ _ h => h.elim), F0, by simpa using hI0, by simp, fun b h => by have := hF0 b h; simp at this; omega, fun h => by have := hF0 gb h; simp at this; omega⟩
  have HGB := Lib.hid hgb
  rw [← hgb]
  clear hI0 hF0 hk0 hcg hgb
  go_wp2_with fail
  go_loopw [5, 20] (fun pp i wr => pp = .pointer (some ⟨ib, 0, none⟩) ∧ ∃ k : Nat, k ≤ nodes.length ∧ i = .int .i64 k ∧ Hid (wr.heap[gb]? = some (.cells #[.slice none 0 0, .slice none 0 0] 54 (0, 0)) ∧ Kept (fun b => w.heap.size ≤ b) w wr ∧ ∃ FI, IdxI wr (.pointer (some ⟨ib, 0, none⟩)) FI (nodes.take k) ∧ (nodes.take k).Nodup ∧ (∀ b, FI b → w.heap.size ≤ b) ∧ ¬ FI gb)) (fun _ i _ => nodes.length - (intOf i).toNat)
  case atStart => exact ⟨rfl, 0, Nat.zero_le _, rfl, HS0⟩
  case round =>
    clear HS0
    obtain ⟨rfl, k, hk, rfl, hH⟩ := hrel
    obtain ⟨hcg, hkk, FI, hI, hnd, hfi, hng⟩ := hH.out
    by_cases hlt : k < nodes.length
    · cases na with
      | none => exact absurd (N3.out rfl).1 (by omega)
      | some ad =>
        have hbl : Below w.heap.size w wr := hkk.below (Nat.le_refl _) (fun i hi h => by omega)
        have cx := rdOneI (HN.out.later hbl) hlt
        have HX := Lib.hid (fun h : nodes[k] ∉ nodes.take k => take_nodupI hlt hnd h)
        have HE := Lib.hid (fun h : nodes[k] ∈ nodes.take k => errTwiceI (uses := uses) hlt h)
        have hlm : (nodes.take k).idxOf nodes[k] < (nodes.take k).length ↔ nodes[k] ∈ nodes.take k := List.idxOf_lt_length_iff
        rw [List.length_take, Nat.min_eq_left hk] at hlm
        have HLM := Lib.hid hlm
        generalize nodes[k] = x at cx HX HE HLM
        have HI := Lib.hid hI
        have HKK := Lib.hid hkk
        have HCG := Lib.hid hcg
        have HFI := Lib.hid hfi
        have HNG := Lib.hid hng
        have HT : Hid (Fits ((nodes.take k).length + 1) 8) := Lib.hid (fits_of (by rw [List.length_take]; omega) (by decide))
        unfold encI at cx
        clear hI hkk hcg hfi hng hH hnd hbl hlm
        go_wp2_with fail
        refine (idxNumberI HI.out x HT.out).mono ?_
        rintro e w4 ⟨rfl, F', hI', hk', hF'⟩
        have HCG4 := Lib.hid ((hk'.block gb (heap_lt HCG.out) HNG.out).trans HCG.out)
        have HKK4 := Lib.hid (HKK.out.trans' hk' (fun i _ h => HFI.out i h))
        have HSZ : Hid (wr.heap.size ≤ w4.heap.size) := Lib.hid hk'.size
        have hng' : ¬ F' gb := fun h => by
          rcases hF' gb h with h1 | h1
          · exact HNG.out h1
          · have := heap_lt HCG.out; omega
        by_cases hx : x ∈ nodes.take k
        · have hm := HLM.out.2 hx
          have HE5 := Lib.hid (HE.out hx)
          generalize (nodes.take k).idxOf x = m at hm ⊢
          have hb : ((m : Int) != (k : Int)) = true := by simp; omega
          have c0 : w4.cell? ⟨gb, 0, none⟩ = some (.slice none 0 0) := cell_of HCG4.out rfl
          have c1 : w4.cell? ⟨gb, 1, none⟩ = some (.slice none 0 0) := cell_of HCG4.out rfl
          have f0 : w4.frozen? ⟨gb, 0, none⟩ = false := frozen_of HCG4.out
          have f1 : w4.frozen? ⟨gb, 1, none⟩ = false := frozen_of HCG4.out
          clear hI' hk' hF' hng' hx HE HX HLM cx
          go_wp2
          have E2 := storedBackI HCG4.out
          have K2 : Kept (fun _ => False) w ((w4.setCell ⟨gb, 0, none⟩ (.slice none 0 0)).setCell ⟨gb, 1, none⟩ (.slice none 0 0)) :=
            ((HKK4.out.setCell (p := ⟨gb, 0, none⟩) (fun h => by have := HGB.out; exact Nat.le_of_eq this.symm) _).setCell (p := ⟨gb, 1, none⟩) (fun h => by have := HGB.out; exact Nat.le_of_eq this.symm) _).mono (fun i hi h => by omega)
          generalize (w4.setCell ⟨gb, 0, none⟩ (.slice none 0 0)).setCell ⟨gb, 1, none⟩ (.slice none 0 0) = wz at E2 K2 ⊢
          have z0 : wz.cell? ⟨gb, 0, none⟩ = some (.slice none 0 0) := cell_of E2 rfl
          have z1 : wz.cell? ⟨gb, 1, none⟩ = some (.slice none 0 0) := cell_of E2 rfl
          refine bodyPost_ret (v := .tuple #[.agg #[.slice none 0 0, .slice none 0 0], .pointer none, .int .i64 5]) ?_ rfl ⟨_, _, _, by rw [HE5.out], K2, ⟨_, _, _, rfl⟩, ⟨_, _, _, rfl⟩, fun h => absurd h (by rw [HE5.out]; decide)⟩
          simp [results, Try.results27, go_sem, z0, z1]
        · obtain ⟨r1, r2, r3⟩ := HX.out hx
          rw [r3]
          rw [r2] at hI'
          have hb : ((k : Int) != (k : Int)) = false := by simp
          have Q : Hid (w4.heap[gb]? = some (.cells #[.slice none 0 0, .slice none 0 0] 54 (0, 0)) ∧ Kept (fun b => w.heap.size ≤ b) w w4 ∧ ∃ FI, IdxI w4 (.pointer (some ⟨ib, 0, none⟩)) FI (nodes.take (k + 1)) ∧ (nodes.take (k + 1)).Nodup ∧ (∀ b, FI b → w.heap.size ≤ b) ∧ ¬ FI gb) :=
            Lib.hid ⟨HCG4.out, HKK4.out, F', hI', r1, fun b h => (hF' b h).elim (HFI.out b) (fun h => Nat.le_trans HKK.out.size h), hng'⟩
          clear hI' hk' hF' hng' hx HE HX HLM cx r1 r2 r3
          go_wp2
          go_roundw
          case rel => exact ⟨rfl, k + 1, by omega, by go_num, Q⟩
          case measure => simp [intOf]; omega
    · obtain rfl : k = nodes.length := by omega
      rw [List.take_length] at hI hnd
      obtain ⟨wm, hrun, hmo, hmk, hms⟩ := run_make_one slRows rfl (wr.setCell ⟨gb, 0, none⟩ (.slice na nodes.length nc)) nodes.length nodes.length (Nat.le_refl _) (by omega) (by unfold maxLen; omega)
      have hrun := hrun _ _ rfl rfl
      have hszr : (wr.setCell ⟨gb, 0, none⟩ (.slice na nodes.length nc)).heap.size = wr.heap.size := by simp
      rw [hszr] at hrun hmo hms
      have hgl := heap_lt hcg
      have f0 : wr.frozen? ⟨gb, 0, none⟩ = false := frozen_of hcg
      have q0 : wr.cell? ⟨gb, 0, none⟩ = some (.slice none 0 0) := cell_of hcg rfl
      have e1 := heap_set (o := 0) hcg (.slice na nodes.length nc)
      have e2 : wm.heap[gb]? = some (.cells #[.slice na nodes.length nc, .slice none 0 0] 54 (0, 0)) := (hmk.block gb (by rw [hszr]; exact hgl) id).trans (by simpa using e1)
      have f1 : wm.frozen? ⟨gb, 1, none⟩ = false := frozen_of e2
      have q1 : wm.cell? ⟨gb, 1, none⟩ = some (.slice none 0 0) := cell_of e2 rfl
      have e3 := heap_set (o := 1) e2 (.slice (some ⟨wr.heap.size, 0, none⟩) nodes.length nodes.length)
      have hne : wr.heap.size ≠ gb := by omega
      have hK1 : Kept (fun b => w.heap.size ≤ b) w (wm.setCell ⟨gb, 1, none⟩ (.slice (some ⟨wr.heap.size, 0, none⟩) nodes.length nodes.length)) :=
        ((hkk.setCell (p := ⟨gb, 0, none⟩) (fun h => Nat.le_of_eq HGB.out.symm) _).trans' hmk (fun _ _ h => h.elim)).setCell (p := ⟨gb, 1, none⟩) (fun h => Nat.le_of_eq HGB.out.symm) _
      have hI1 : IdxI (wm.setCell ⟨gb, 1, none⟩ (.slice (some ⟨wr.heap.size, 0, none⟩) nodes.length nodes.length)) (.pointer (some ⟨ib, 0, none⟩)) FI nodes :=
        ((hI.frame ((Kept.refl (fun b => b = gb) wr).setCell (p := ⟨gb, 0, none⟩) (fun _ => rfl) _) (fun b hb e => by subst e; exact hng hb)).frame hmk (fun _ _ => id)).frame ((Kept.refl (fun b => b = gb) wm).setCell (p := ⟨gb, 1, none⟩) (fun _ => rfl) _) (fun b hb e => by subst e; exact hng hb)
      have hL1 : LsN (wm.setCell ⟨gb, 1, none⟩ (.slice (some ⟨wr.heap.size, 0, none⟩) nodes.length nodes.length)) (.slice (some ⟨wr.heap.size, 0, none⟩) nodes.length nodes.length) (fun b => (Value.slice (some ⟨wr.heap.size, 0, none⟩) nodes.length nodes.length).ownBlock = some b) (adjP nodes.length []) := by
        rw [adjP_nil]
        exact LsIs.made (hmo.setCell (p := ⟨gb, 1, none⟩) (by simp [Value.ownBlock]; exact hne) _)
      have HG0 : Hid (GMemI w (wm.setCell ⟨gb, 1, none⟩ (.slice (some ⟨wr.heap.size, 0, none⟩) nodes.length nodes.length)) gb (.slice na nodes.length nc) (.slice (some ⟨wr.heap.size, 0, none⟩) nodes.length nodes.length) (.pointer (some ⟨ib, 0, none⟩)) FI (fun b => (Value.slice (some ⟨wr.heap.size, 0, none⟩) nodes.length nodes.length).ownBlock = some b) nodes []) :=
        Lib.hid ⟨by simpa using e3, hI1, hL1, ⟨by simp [Value.ownBlock]; exact hne, hng, Nat.le_of_eq HGB.out.symm⟩, fun b hb hf => by simp [Value.ownBlock] at hb; subst hb; have := hI.lt hf; omega, fun b hb => by simp [Value.ownBlock] at hb; subst hb; exact hkk.size, hfi, hK1⟩
      have HND := Lib.hid hnd
      clear hH hcg hkk hI hnd hfi hng hmo hmk hms e1 e2 e3 hK1 hI1 hL1 hlt hk
      go_wp2_with fail
      generalize wm.setCell ⟨gb, 1, none⟩ (.slice (some ⟨wr.heap.size, 0, none⟩) nodes.length nodes.length) = ws at HG0 ⊢
      generalize wr.heap.size = gg at HG0 ⊢
      clear hrun hszr f0 f1 q0 q1 hne hgl
      go_loopw [5, 44] (fun pp i wr => pp = .pointer (some ⟨ib, 0, none⟩) ∧ ∃ k : Nat, k ≤ uses.length ∧ i = .int .i64 k ∧ Hid ((∀ u ∈ uses.take k, u.1 ∈ nodes ∧ u.2 ∈ nodes) ∧ ∃ F, GMemI w wr gb (.slice na nodes.length nc) (.slice (some ⟨gg, 0, none⟩) nodes.length nodes.length) (.pointer (some ⟨ib, 0, none⟩)) FI F nodes (prs nodes (uses.take k)))) (fun _ i _ => uses.length - (intOf i).toNat)
      case atStart => exact ⟨rfl, 0, Nat.zero_le _, rfl, Lib.hid ⟨by simp, _, HG0.out⟩⟩
      case round =>
        clear HG0
        obtain ⟨rfl, k, hk, rfl, hH⟩ := hrel
        obtain ⟨hall, F, hG⟩ := hH.out
        by_cases hlt : k < uses.length
        · cases ua with
          | none => exact absurd (U3.out rfl).1 (by omega)
          | some ad =>
            have hbl : Below w.heap.size w wr := hG.kept.below (Nat.le_refl _) (fun i hi h => by omega)
            obtain ⟨cx, cy⟩ := rdPrI (HU.out.later hbl) hlt
            have HG := Lib.hid hG
            have HERR := Lib.hid (fun h => errNoneI HND.out hlt h)
            have hpt : prs nodes (uses.take (k + 1)) = prs nodes (uses.take k) ++ [(nodes.idxOf uses[k].1, nodes.idxOf uses[k].2)] := by
              rw [List.take_succ_eq_append_getElem hlt]
              unfold prs
              rw [List.map_append]
              rfl
            have hall2 : uses[k].1 ∈ nodes → uses[k].2 ∈ nodes → ∀ u ∈ uses.take (k + 1), u.1 ∈ nodes ∧ u.2 ∈ nodes := fun q1 q2 u hu => by
              rw [List.take_succ_eq_append_getElem hlt] at hu
              rcases List.mem_append.1 hu with hu | hu
              · exact hall u hu
              · simp only [List.mem_singleton] at hu
                subst hu
                exact ⟨q1, q2⟩
            have HPT := Lib.hid hpt
            have HALL := Lib.hid hall2
            have hlen : (prs nodes (uses.take k)).length ≤ 1000 := by simp [prs]; omega
            have HLEN := Lib.hid hlen
            generalize hx : uses[k].1 = x at cx HERR HPT HALL
            generalize hy : uses[k].2 = y at cy HERR HPT HALL
            unfold encI at cx cy
            clear hG hall hH hpt hall2 hlen hx hy hbl
            have HG4 := Lib.hid (HG.out.same ((Kept.refl (fun _ => False) wr).alloc (.cells #[encI x, encI y] 31)))
            have HSZ : Hid (wr.heap.size < (wr.alloc (.cells #[encI x, encI y] 31)).heap.size) := Lib.hid (by simp)
            have hbad : ∀ {e1 : Int}, errOf nodes uses = 6 → ∀ wx : World, GMemI w wx gb (.slice na nodes.length nc) (.slice (some ⟨gg, 0, none⟩) nodes.length nodes.length) (.pointer (some ⟨ib, 0, none⟩)) FI F nodes (prs nodes (uses.take k)) → True := fun _ _ _ => trivial
            clear hbad
            by_cases hx : x ∈ nodes
            · by_cases hy : y ∈ nodes
              · have HFX := Lib.hid (idxFindYI HG4.out.idx hx)
                have HFY := Lib.hid (idxFindYI HG4.out.idx hy)
                have HIX := Lib.hid (List.idxOf_lt_length_of_mem hx)
                have HAL := Lib.hid (HALL.out hx hy)
                generalize nodes.idxOf x = i at HFX HPT HIX
                generalize nodes.idxOf y = j at HFY HPT
                clear HERR HALL hx hy
                go_wp2_with fail
                refine HFX.out.mono ?_
                rintro e w4 ⟨rfl, rfl⟩
                go_wp2_with fail
                refine HFY.out.mono ?_
                rintro e w4 ⟨rfl, rfl⟩
                clear cx cy HG HFX HFY
                generalize wr.alloc (.cells #[encI x, encI y] 31) = wa at HG4 HSZ ⊢
                have hil : i < (adjP nodes.length (prs nodes (uses.take k))).length := by rw [adjP_length]; exact HIX.out
                obtain ⟨g', off', cap', v, hgv, hq1, hq2, r0, rf0, ro, hFg, hggl, hvF, hvg⟩ := HG4.out.ls.row hil
                clear hq1 hq2
                simp only [Value.slice.injEq, Option.some.injEq, Addr.mk.injEq, true_and, and_true] at hgv
                obtain ⟨⟨rfl, rfl⟩, hgv2⟩ := hgv
                clear hgv2
                rw [Nat.zero_add] at r0 rf0
                have hrl := adjP_le (n := nodes.length) (prs nodes (uses.take k)) i
                rw [nxt_get hil] at hrl
                have HPUT := Lib.hid (fun (o : Obj) (w2 : World) (v2 : Value) => HG4.out.put (o := o) (w2 := w2) (v2 := v2) (j := j) HIX.out rfl (by rw [Nat.zero_add]; exact r0))
                generalize (adjP nodes.length (prs nodes (uses.take k)))[i] = R at ro hrl HPUT
                obtain ⟨va, vc, rfl, v1, v2, _⟩ := ro.shape
                have HRO := Lib.hid ro
                have HT : Hid (Fits (R.length + 1) 8) := Lib.hid (fits_of (by have := HLEN.out; omega) (by decide))
                have c1 : wa.cell? ⟨gb, 1, none⟩ = some (.slice (some ⟨gg, 0, none⟩) nodes.length nodes.length) := cell_of HG4.out.cellg rfl
                have hgbl := heap_lt HG4.out.cellg
                have hil2 : (i : Int) < (nodes.length : Int) := by have := HIX.out; omega
                have hi0 : (0 : Int) ≤ (i : Int) := by omega
                have HV : Hid ((Value.slice va R.length vc).ownBlock ≠ some gb ∧ (Value.slice va R.length vc).ownBlock ≠ some gg) := Lib.hid ⟨fun hb => HG4.out.dg.1 (hvF gb hb), hvg⟩
                have HGA := Lib.hid (And.intro hFg HG4.out.cellg)
                unfold maxLen at v2
                clear ro hFg hvF hvg hrl hil
                go_wp2_with fail
                go_region_law (first
                  | (refine step_append slInt (v := .slice va R.length vc) (n := R.length) (m := 1) (xs := cellsOf encN R) (news := [.int .i64 (j : Int)]) rfl _ _ rfl rfl rfl ?_ ?_ ?_ HT.out ?_
                     · exact HRO.out.alloc _
                     · exact Own.rd (Own.fresh (n := 1) (by rfl) (by decide))
                     · simp [Value.oneCell']
                     intro x2 w2 hown2 hk2 hb2
                     obtain ⟨a2, c2, rfl, _, _, _⟩ := hown2.shape
                     have hk2' : Kept (fun b => (Value.slice va R.length vc).ownBlock = some b) (wa.alloc (.cells #[.int .i64 (j : Int)] 3)) w2 := ⟨hk2.os, hk2.tape, hk2.output, hk2.size, hk2.block⟩
                     have hb2' : ∀ b, (Value.slice a2 (R.length + 1) c2).ownBlock = some b → (Value.slice va R.length vc).ownBlock = some b ∨ (wa.alloc (.cells #[.int .i64 (j : Int)] 3)).heap.size ≤ b := hb2
                     have d1 : w2.cell? ⟨gb, 1, none⟩ = some (.slice (some ⟨gg, 0, none⟩) nodes.length nodes.length) := hk2'.cell (((Kept.refl (fun _ => False) wa).alloc _).cell c1 id) HV.out.1
                     have d2 : w2.cell? ⟨gg, i, none⟩ = some (.slice va R.length vc) := hk2'.cell (((Kept.refl (fun _ => False) wa).alloc _).cell r0 id) HV.out.2
                     have df : w2.frozen? ⟨gg, i, none⟩ = false := by
                       obtain ⟨o, ho⟩ : ∃ o, wa.heap[gg]? = some o := ⟨_, Array.getElem?_eq_getElem hggl⟩
                       have h2 : w2.heap[gg]? = some o := (hk2'.block gg (by simp; omega) HV.out.2).trans (heap_alloc ho _)
                       have h3 : w2.frozen? ⟨gg, i, none⟩ = wa.frozen? ⟨gg, i, none⟩ := by simp [World.frozen?, h2, ho]
                       rw [h3]; exact rf0
                     have P := Lib.hid (HPUT.out (.cells #[.int .i64 (j : Int)] 3) w2 (.slice a2 (R.length + 1) c2) hk2' (by rw [cellsOf_append, List.length_append]; exact hown2) hb2')
                     clear hown2 hk2 hb2 hk2' hb2'))
                all_goals
                  have Q : Hid ((∀ u ∈ uses.take (k + 1), u.1 ∈ nodes ∧ u.2 ∈ nodes) ∧ ∃ F, GMemI w (w2.setCell ⟨gg, i, none⟩ (.slice a2 (R.length + 1) c2)) gb (.slice na nodes.length nc) (.slice (some ⟨gg, 0, none⟩) nodes.length nodes.length) (.pointer (some ⟨ib, 0, none⟩)) FI F nodes (prs nodes (uses.take (k + 1)))) := Lib.hid
                    ⟨HAL.out, by rw [HPT.out]; have := P.out; rw [Nat.zero_add] at this; exact this⟩
                  clear P d1 d2 df c1 r0 rf0 HPUT
                  go_wp2
                  go_roundw
                  case rel => exact ⟨rfl, k + 1, by omega, by go_num, Q⟩
                  case measure => simp [intOf]; omega
              · have HFX := Lib.hid (idxFindYI HG4.out.idx hx)
                have HFY := Lib.hid (idxFindNI HG4.out.idx hy)
                have HE6 := Lib.hid (HERR.out (.inr hy))
                generalize nodes.idxOf x = i at HFX HPT
                clear HERR HALL HPT hx hy
                go_wp2_with fail
                refine HFX.out.mono ?_
                rintro e w4 ⟨rfl, rfl⟩
                go_wp2_with fail
                refine HFY.out.mono ?_
                rintro e w4 ⟨rfl, rfl⟩
                clear cx cy HG HFX HFY
                generalize wr.alloc (.cells #[encI x, encI y] 31) = wa at HG4 HSZ ⊢
                have c0 : wa.cell? ⟨gb, 0, none⟩ = some (.slice na nodes.length nc) := cell_of HG4.out.cellg rfl
                have c1 : wa.cell? ⟨gb, 1, none⟩ = some (.slice (some ⟨gg, 0, none⟩) nodes.length nodes.length) := cell_of HG4.out.cellg rfl
                have f0 : wa.frozen? ⟨gb, 0, none⟩ = false := frozen_of HG4.out.cellg
                have f1 : wa.frozen? ⟨gb, 1, none⟩ = false := frozen_of HG4.out.cellg
                go_wp2
                have E2 := storedBackI HG4.out.cellg
                have K2 : Kept (fun _ => False) w ((wa.setCell ⟨gb, 0, none⟩ (.slice na nodes.length nc)).setCell ⟨gb, 1, none⟩ (.slice (some ⟨gg, 0, none⟩) nodes.length nodes.length)) :=
                  ((HG4.out.kept.setCell (p := ⟨gb, 0, none⟩) (fun h => by have := HGB.out; exact Nat.le_of_eq this.symm) _).setCell (p := ⟨gb, 1, none⟩) (fun h => by have := HGB.out; exact Nat.le_of_eq this.symm) _).mono (fun i hi h => by omega)
                generalize (wa.setCell ⟨gb, 0, none⟩ (.slice na nodes.length nc)).setCell ⟨gb, 1, none⟩ (.slice (some ⟨gg, 0, none⟩) nodes.length nodes.length) = wz at E2 K2 ⊢
                have z0 : wz.cell? ⟨gb, 0, none⟩ = some (.slice na nodes.length nc) := cell_of E2 rfl
                have z1 : wz.cell? ⟨gb, 1, none⟩ = some (.slice (some ⟨gg, 0, none⟩) nodes.length nodes.length) := cell_of E2 rfl
                refine bodyPost_ret (v := .tuple #[.agg #[.slice na nodes.length nc, .slice (some ⟨gg, 0, none⟩) nodes.length nodes.length], .pointer none, .int .i64 6]) ?_ rfl ⟨_, _, _, by rw [HE6.out], K2, ⟨_, _, _, rfl⟩, ⟨_, _, _, rfl⟩, fun h => absurd h (by rw [HE6.out]; decide)⟩
                simp [results, Try.results27, go_sem, z0, z1]
            · have HFX := Lib.hid (idxFindNI HG4.out.idx hx)
              have HE6 := Lib.hid (HERR.out (.inl hx))
              have HFY := Lib.hid (idxFindI HG4.out.idx y)
              generalize (if y ∈ nodes then nodes.idxOf y else 0 : Nat) = i2 at HFY
              generalize (if y ∈ nodes then (0 : Int) else 6) = c2 at HFY
              clear HERR HALL HPT hx
              go_wp2_with fail
              refine HFX.out.mono ?_
              rintro e w4 ⟨rfl, rfl⟩
              go_wp2_with fail
              refine HFY.out.mono ?_
              rintro e w4 ⟨rfl, rfl⟩
              clear cx cy HG HFX HFY
              generalize wr.alloc (.cells #[encI x, encI y] 31) = wa at HG4 HSZ ⊢
              have c0 : wa.cell? ⟨gb, 0, none⟩ = some (.slice na nodes.length nc) := cell_of HG4.out.cellg rfl
              have c1 : wa.cell? ⟨gb, 1, none⟩ = some (.slice (some ⟨gg, 0, none⟩) nodes.length nodes.length) := cell_of HG4.out.cellg rfl
              have f0 : wa.frozen? ⟨gb, 0, none⟩ = false := frozen_of HG4.out.cellg
              have f1 : wa.frozen? ⟨gb, 1, none⟩ = false := frozen_of HG4.out.cellg
              go_wp2
              have E2 := storedBackI HG4.out.cellg
              have K2 : Kept (fun _ => False) w ((wa.setCell ⟨gb, 0, none⟩ (.slice na nodes.length nc)).setCell ⟨gb, 1, none⟩ (.slice (some ⟨gg, 0, none⟩) nodes.length nodes.length)) :=
                ((HG4.out.kept.setCell (p := ⟨gb, 0, none⟩) (fun h => by have := HGB.out; exact Nat.le_of_eq this.symm) _).setCell (p := ⟨gb, 1, none⟩) (fun h => by have := HGB.out; exact Nat.le_of_eq this.symm) _).mono (fun i hi h => by omega)
              generalize (wa.setCell ⟨gb, 0, none⟩ (.slice na nodes.length nc)).setCell ⟨gb, 1, none⟩ (.slice (some ⟨gg, 0, none⟩) nodes.length nodes.length) = wz at E2 K2 ⊢
              have z0 : wz.cell? ⟨gb, 0, none⟩ = some (.slice na nodes.length nc) := cell_of E2 rfl
              have z1 : wz.cell? ⟨gb, 1, none⟩ = some (.slice (some ⟨gg, 0, none⟩) nodes.length nodes.length) := cell_of E2 rfl
              refine bodyPost_ret (v := .tuple #[.agg #[.slice na nodes.length nc, .slice (some ⟨gg, 0, none⟩) nodes.length nodes.length], .pointer none, .int .i64 6]) ?_ rfl ⟨_, _, _, by rw [HE6.out], K2, ⟨_, _, _, rfl⟩, ⟨_, _, _, rfl⟩, fun h => absurd h (by rw [HE6.out]; decide)⟩
              simp [results, Try.results27, go_sem, z0, z1]
        · obtain rfl : k = uses.length := by omega
          rw [List.take_length] at hall hG
          have c0 : wr.cell? ⟨gb, 0, none⟩ = some (.slice na nodes.length nc) := cell_of hG.cellg rfl
          have c1 : wr.cell? ⟨gb, 1, none⟩ = some (.slice (some ⟨gg, 0, none⟩) nodes.length nodes.length) := cell_of hG.cellg rfl
          have f0 : wr.frozen? ⟨gb, 0, none⟩ = false := frozen_of hG.cellg
          have f1 : wr.frozen? ⟨gb, 1, none⟩ = false := frozen_of hG.cellg
          have HG := Lib.hid hG
          have HALL := Lib.hid hall
          have HE0 := Lib.hid (errOkI HND.out hall)
          clear hG hall hH hlt hk
          go_wp2
          have E2 := storedBackI HG.out.cellg
          have K1 : Kept (fun b => b = gb) wr ((wr.setCell ⟨gb, 0, none⟩ (.slice na nodes.length nc)).setCell ⟨gb, 1, none⟩ (.slice (some ⟨gg, 0, none⟩) nodes.length nodes.length)) :=
            ((Kept.refl (fun b => b = gb) wr).setCell (p := ⟨gb, 0, none⟩) (fun h => rfl) _).setCell (p := ⟨gb, 1, none⟩) (fun h => rfl) _
          generalize (wr.setCell ⟨gb, 0, none⟩ (.slice na nodes.length nc)).setCell ⟨gb, 1, none⟩ (.slice (some ⟨gg, 0, none⟩) nodes.length nodes.length) = wz at E2 K1 ⊢
          have z0 : wz.cell? ⟨gb, 0, none⟩ = some (.slice na nodes.length nc) := cell_of E2 rfl
          have z1 : wz.cell? ⟨gb, 1, none⟩ = some (.slice (some ⟨gg, 0, none⟩) nodes.length nodes.length) := cell_of E2 rfl
          have K2 : Kept (fun _ => False) w wz := (HG.out.kept.trans' K1 (fun i hi h => by subst h; exact HG.out.dg.2.2)).mono (fun i hi h => by omega)
          refine bodyPost_ret (v := .tuple #[.agg #[.slice na nodes.length nc, .slice (some ⟨gg, 0, none⟩) nodes.length nodes.length], .pointer (some ⟨ib, 0, none⟩), .int .i64 0]) ?_ rfl ⟨_, _, _, by rw [HE0.out], K2, ⟨_, _, _, rfl⟩, ⟨_, _, _, rfl⟩, fun _ => ⟨HND.out, HALL.out, rfl, F, FI, ib, rfl, HG.out.ls.frame K1 (fun b hb e => by subst e; exact HG.out.dg.1 hb), HG.out.idx.frame K1 (fun b hb e => by subst e; exact HG.out.dg.2.1 hb), HG.out.fb⟩⟩
          simp [results, Try.results27, go_sem, z0, z1]

end Go.Proofs.Ytncloielmfplpaa
