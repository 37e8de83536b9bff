/- The union's methods at one type: Join. -/
import Derived.Test.YtodklnfdmcadkaaUniGS
import Derived.Deep.RegionHeld3
namespace Go.Proofs.Ytodklnfdmcadkaa
open Go.RowKit
set_option linter.unusedVariables false
set_option linter.unusedSimpArgs false

section
variable {p : Value} {F : Nat → Prop} {ρ : Nat → Nat} {vals : List (List UInt8)} {w : World}

theorem ownSetCS {e : TypeId} {g off n c : Nat} {cs : List (Cel (List UInt8))} (h : Own w e 3 (.slice (some ⟨g, off, none⟩) n c) n (cellsOf (encC encS) cs)) (hn : cs.length = n) {k j : Nat} (hk : k < n) (hj : j < 3) (u : Value) (y : Cel (List UInt8))
    (hy : (encC encS y).cells.toList = (encC encS (cs[k]'(by omega))).cells.toList.set j u) : Own (w.setCell ⟨g, off + k * 3 + j, none⟩ u) e 3 (.slice (some ⟨g, off, none⟩) n c) n (cellsOf (encC encS) (cs.set k y)) := by
  have h1 := h.setAt (j := k * 3 + j) (by omega) u
  rw [cellsOf_encC_set encS cs (by omega) hj u y hy, ← Nat.add_assoc] at h1
  exact h1

theorem cellCS {e : TypeId} {g off n c : Nat} {cs : List (Cel (List UInt8))} (h : Own w e 3 (.slice (some ⟨g, off, none⟩) n c) n (cellsOf (encC encS) cs)) (hn : cs.length = n) {k : Nat} (hk : k < n) :
    w.cell? ⟨g, off + k * 3, none⟩ = some (.int .i64 ((cs[k]'(by omega)).1 : Int)) ∧ w.cell? ⟨g, off + k * 3 + 1, none⟩ = some (.int .i64 ((cs[k]'(by omega)).2.1 : Int)) ∧ w.cell? ⟨g, off + k * 3 + 2, none⟩ = some (encS (cs[k]'(by omega)).2.2) ∧ ∀ o, w.frozen? ⟨g, o, none⟩ = false := by
  obtain ⟨g', off', cap, hv, _, _, hcl, hfz, hg⟩ := h.elt (by omega)
  simp only [Value.slice.injEq, Option.some.injEq, Addr.mk.injEq, true_and, and_true] at hv
  obtain ⟨⟨rfl, rfl⟩, rfl⟩ := hv
  refine ⟨?_, ?_, ?_, hfz⟩
  · exact hcl (k * 3) _ (by have := cellsOf_encC_get encS cs (k := k) (by omega) (j := 0) (by omega); exact this)
  · exact hcl (k * 3 + 1) _ (by have := cellsOf_encC_get encS cs (k := k) (by omega) (j := 1) (by omega); exact this)
  · exact hcl (k * 3 + 2) _ (by have := cellsOf_encC_get encS cs (k := k) (by omega) (j := 2) (by omega); exact this)

/-- What is there ahead of a Join of two roots, and behind it. -/
theorem uniJoinMemS (h : UniS w p F ρ vals) {a b : Nat} (ha : a < vals.length) (hb : b < vals.length) (ra : ρ a = a) (rb : ρ b = b) (hab : a < b) :
    ∃ (sb g off c na nb u r : Nat), p = .pointer (some ⟨sb, 0, none⟩) ∧ sb ≠ g ∧ vals.length ≤ c ∧ c ≤ maxLen ∧ r + 1 ≤ vals.length ∧
      (w.cell? ⟨sb, 0, none⟩ = some (.slice (some ⟨g, off, none⟩) vals.length c) ∧ w.cell? ⟨g, off + b * 3, none⟩ = some (.int .i64 (u : Int)) ∧ w.frozen? ⟨g, off + b * 3, none⟩ = false) ∧
      ∀ w3, w3 = w.setCell ⟨g, off + b * 3, none⟩ (.int .i64 (a : Int)) →
        (w3.cell? ⟨sb, 0, none⟩ = some (.slice (some ⟨g, off, none⟩) vals.length c) ∧ w3.cell? ⟨g, off + a * 3 + 1, none⟩ = some (.int .i64 (na : Int)) ∧ w3.cell? ⟨g, off + b * 3 + 1, none⟩ = some (.int .i64 (nb : Int)) ∧ w3.frozen? ⟨g, off + a * 3 + 1, none⟩ = false ∧ w3.frozen? ⟨g, off + b * 3 + 1, none⟩ = false) ∧
        ∀ w4, w4 = w3.drew.setCell ⟨g, off + a * 3 + 1, none⟩ (.int .i64 (nb : Int)) →
          w4.cell? ⟨sb, 0, none⟩ = some (.slice (some ⟨g, off, none⟩) vals.length c) ∧ (w4.cell? ⟨g, off + b * 3 + 1, none⟩ = some (.int .i64 (nb : Int)) ∧ w4.frozen? ⟨g, off + b * 3 + 1, none⟩ = false) ∧
          ∀ w5, w5 = w4.setCell ⟨g, off + b * 3 + 1, none⟩ (.int .i64 (na : Int)) →
            w5.cell? ⟨sb, 0, none⟩ = some (.slice (some ⟨g, off, none⟩) vals.length c) ∧ (w5.cell? ⟨sb, 1, none⟩ = some (.int .i64 ((r + 1 : Nat) : Int)) ∧ w5.frozen? ⟨sb, 1, none⟩ = false) ∧
            UniS (w5.setCell ⟨sb, 1, none⟩ (.int .i64 (r : Int))) p F (joinR ρ a b) vals ∧ Kept F w (w5.setCell ⟨sb, 1, none⟩ (.int .i64 (r : Int))) := by
  obtain ⟨cs, ⟨sb, v, rfl, h1, hown, hv1, hF⟩, hinv, hring, rfl⟩ := h
  rw [List.length_map] at ha hb ⊢
  obtain ⟨g, off, c, rfl, q1, q2, hcl, hfz, hg⟩ := hown.elt (by omega)
  have hgs : sb ≠ g := fun e => hv1 (by simp [Value.ownBlock, e])
  have hne : a ≠ b := by omega
  have hro := roots_join (n := cs.length) hb ra rb hne
  generalize hr : roots cs.length (joinR ρ a b) = r at hro
  rw [← hro] at h1
  have hrl := roots_le cs.length ρ
  obtain ⟨b0, b1, _, bf⟩ := cellCS hown rfl hb
  refine ⟨sb, g, off, c, cs[a].2.1, cs[b].2.1, cs[b].1, r, rfl, hgs, q1, q2, by omega, ⟨cell_of h1 rfl, b0, bf _⟩, ?_⟩
  rintro w3 rfl
  have e3 := (heap_set_ne (w := w) (p := ⟨g, off + b * 3, none⟩) hgs (.int .i64 (a : Int))).trans h1
  have o3 := ownSetCS hown rfl (k := b) hb (j := 0) (by omega) (.int .i64 (a : Int)) (a, cs[b].2.1, cs[b].2.2) rfl
  rw [Nat.add_zero] at o3
  have k3 := (Kept.refl F w).setCell (p := ⟨g, off + b * 3, none⟩) (fun _ => (hF g).2 (.inr (by simp [Value.ownBlock]))) (.int .i64 (a : Int))
  generalize w.setCell ⟨g, off + b * 3, none⟩ (.int .i64 (a : Int)) = w3 at e3 o3 k3 ⊢
  obtain ⟨_, a1, _, _⟩ := cellCS o3 (by simp) ha
  obtain ⟨_, b1, _, bf⟩ := cellCS o3 (by simp) hb
  simp only [List.getElem_set, hne.symm, if_false, if_true] at a1 b1
  refine ⟨⟨cell_of e3 rfl, a1, b1, bf _, bf _⟩, ?_⟩
  rintro w4 rfl
  have e4 := (heap_set_ne (w := w3.drew) (p := ⟨g, off + a * 3 + 1, none⟩) hgs (.int .i64 (cs[b].2.1 : Int))).trans e3
  have o4 := ownSetCS o3.drew (by simp) (k := a) ha (j := 1) (by omega) (.int .i64 (cs[b].2.1 : Int)) (cs[a].1, cs[b].2.1, cs[a].2.2) (by simp [List.getElem_set, hne.symm]; rfl)
  have k4 := k3.drew.setCell (p := ⟨g, off + a * 3 + 1, none⟩) (fun _ => (hF g).2 (.inr (by simp [Value.ownBlock]))) (.int .i64 (cs[b].2.1 : Int))
  generalize w3.drew.setCell ⟨g, off + a * 3 + 1, none⟩ (.int .i64 (cs[b].2.1 : Int)) = w4 at e4 o4 k4 ⊢
  obtain ⟨_, b1, _, bf⟩ := cellCS o4 (by simp) hb
  simp only [List.getElem_set, hne, if_false, if_true] at b1
  refine ⟨cell_of e4 rfl, ⟨b1, bf _⟩, ?_⟩
  rintro w5 rfl
  have e5 := (heap_set_ne (w := w4) (p := ⟨g, off + b * 3 + 1, none⟩) hgs (.int .i64 (cs[a].2.1 : Int))).trans e4
  have o5 := ownSetCS o4 (by simp) (k := b) hb (j := 1) (by omega) (.int .i64 (cs[a].2.1 : Int)) (a, cs[a].2.1, cs[b].2.2) (by simp [List.getElem_set, hne]; rfl)
  have k5 := k4.setCell (p := ⟨g, off + b * 3 + 1, none⟩) (fun _ => (hF g).2 (.inr (by simp [Value.ownBlock]))) (.int .i64 (cs[a].2.1 : Int))
  generalize w4.setCell ⟨g, off + b * 3 + 1, none⟩ (.int .i64 (cs[a].2.1 : Int)) = w5 at e5 o5 k5 ⊢
  have hcs : ((cs.set b (a, cs[b].2.1, cs[b].2.2)).set a (cs[a].1, cs[b].2.1, cs[a].2.2)).set b (a, cs[a].2.1, cs[b].2.2) = joinC cs a b ha hb := by
    apply List.ext_getElem (by simp [joinC])
    intro i h1 h2
    simp only [joinC, List.getElem_set]
    by_cases e1 : b = i
    · subst e1; simp [hne]
    · simp [e1]
  rw [hcs] at o5
  have hl : (joinC cs a b ha hb).length = cs.length := joinC_length
  refine ⟨cell_of e5 rfl, ⟨cell_of e5 rfl, frozen_of e5⟩, ⟨joinC cs a b ha hb, ⟨sb, _, rfl, ?_, ?_, hv1, hF⟩, hinv.join ha hb ra rb hab, hring.join hinv ha hb ra rb hab, ?_⟩, ?_⟩
  · rw [hl, hr]
    have := heap_set (o := 1) e5 (.int .i64 (r : Int))
    simpa using this
  · rw [hl]
    exact o5.setCell (p := ⟨sb, 1, none⟩) hv1 _
  · apply List.ext_getElem (by simp [hl])
    intro i h1 h2
    simp only [List.getElem_map, joinC_get hne]
    split
    · rename_i e; subst e; rfl
    · split
      · rename_i e; subst e; rfl
      · rfl
  · exact k5.setCell (fun _ => (hF sb).2 (.inl rfl)) _

set_option maxRecDepth 100000 in
set_option maxHeartbeats 1000000 in
theorem uniJoinS (h : UniS w p F ρ vals) (i j : Int) :
    Calls Try.prog 32 #[p, .int .i64 i, .int .i64 j] w fun e w' => (((i < 0 ∨ (vals.length : Int) ≤ i) ∨ (j < 0 ∨ (vals.length : Int) ≤ j)) ∧ e = .returned (.int .i64 2) ∧ UniS w' p F ρ vals ∧ Kept F w w') ∨
      ∃ i' j' : Nat, i = i' ∧ j = j' ∧ i' < vals.length ∧ j' < vals.length ∧ e = .returned (.int .i64 0) ∧ UniS w' p F (joinN ρ i' j') vals ∧ Kept F w w' := by
  have HU := Lib.hid h
  have HP := Lib.hid (uniLeastS h i)
  clear h
  go_enter Try.func32, Try.ntmps32
  go_wp2_with fail
  refine HP.out.mono ?_
  rintro e w1 (⟨hn, rfl, rfl⟩ | ⟨i', rfl, hi, rfl, hu, hk⟩)
  · have HN := Lib.hid hn
    have HP2 := Lib.hid (uniLeastS HU.out j)
    clear hn
    go_wp2_with fail
    refine HP2.out.mono ?_
    rintro e w2 (⟨hn, rfl, rfl⟩ | ⟨j', rfl, hj, rfl, hu2, hk2⟩)
    · clear hn
      go_wp2
      go_ret
      exact .inl ⟨.inl HN.out, rfl, HU.out, Kept.refl _ _⟩
    · have HU2 := Lib.hid (And.intro hu2 hk2)
      clear hu2 hk2 hj
      go_wp2
      go_ret
      exact .inl ⟨.inl HN.out, rfl, HU2.out⟩
  · have HP2 := Lib.hid (uniLeastS hu j)
    have HU1 := Lib.hid hu
    have HK1 := Lib.hid hk
    have HI := Lib.hid hi
    clear hu hk hi
    go_wp2_with fail
    refine HP2.out.mono ?_
    rintro e w2 (⟨hn, rfl, rfl⟩ | ⟨j', rfl, hj, rfl, hu2, hk2⟩)
    · have HN := Lib.hid hn
      clear hn
      go_wp2
      go_ret
      exact .inl ⟨.inr HN.out, rfl, HU1.out, HK1.out⟩
    · have HU2 := Lib.hid hu2
      have HK2 := Lib.hid (HK1.out.trans hk2)
      have HJ := Lib.hid hj
      by_cases heq : ρ i' = ρ j'
      · have HE := Lib.hid heq
        have hb : ((ρ i' : Int) == (ρ j' : Int)) = true := by rw [heq]; simp
        clear hu2 hk2 hj heq
        go_wp2
        go_ret
        refine .inr ⟨i', j', rfl, rfl, HI.out, HJ.out, rfl, ?_, HK2.out⟩
        rw [joinN_same HE.out]
        exact HU2.out
      · have hb : ((ρ i' : Int) == (ρ j' : Int)) = false := by simp; omega
        have hri := hu2.le HI.out
        have hrj := hu2.le hj
        have hii := hu2.idem HI.out
        have hjj := hu2.idem hj
        have hi' := HI.out
        rcases Nat.lt_or_gt_of_ne heq with hlt | hlt
        case' inl =>
          have hge : ¬ ρ j' < ρ i' := by omega
          have hjn : joinR ρ (ρ i') (ρ j') = joinN ρ i' j' := by unfold joinN; rw [Nat.min_eq_left (by omega), Nat.max_eq_right (by omega)]
          have hjm := uniJoinMemS hu2 (a := ρ i') (b := ρ j') (by omega) (by omega) hii hjj hlt
        case' inr =>
          have hge : ¬ ρ i' < ρ j' := by omega
          have hjn : joinR ρ (ρ j') (ρ i') = joinN ρ i' j' := by unfold joinN; rw [Nat.min_eq_right (by omega), Nat.max_eq_left (by omega)]
          have hjm := uniJoinMemS hu2 (a := ρ j') (b := ρ i') (by omega) (by omega) hjj hii hlt
        all_goals
          rw [hjn] at hjm
          have hlo : ρ i' < vals.length := by omega
          have hhi : ρ j' < vals.length := by omega
          clear hjn
          generalize ρ i' = lo at *
          generalize ρ j' = hi at *
          obtain ⟨sb, g, off, c, na, nb, u, r, rfl, hgs, q1, q2, hr, ⟨c0, e0, f0⟩, hrest⟩ := hjm
          have q3 : vals.length ≤ 9223372036854775807 := by unfold maxLen at q2; omega
          have hi1 : (lo : Int) < (vals.length : Int) := by omega
          have hi2 : (hi : Int) < (vals.length : Int) := by omega
          obtain ⟨⟨g0, g1, g2, g3, g4⟩, hrest4⟩ := hrest _ rfl
          obtain ⟨k2, ⟨k0, k1⟩, hrest5⟩ := hrest4 _ rfl
          obtain ⟨l2, ⟨l0, l1⟩, hfin⟩ := hrest5 _ rfl
          have hsub : ((r + 1 : Nat) : Int) - 1 = (r : Int) := by omega
          have HFIN := Lib.hid hfin
          have HK0 := Lib.hid (And.intro (And.intro k0 (And.intro k1 k2)) (And.intro l0 (And.intro l1 l2)))
          have HG0 := Lib.hid (And.intro g0 (And.intro g1 (And.intro g2 (And.intro g3 g4))))
          have heq2 : ¬ hi = lo := fun h => heq h.symm
          clear hu2 hk2 hj hri hrj hii hjj hi' q2 hrest hrest4 hrest5 hfin k0 k1 k2 l0 l1 l2 g0 g1 g2 g3 g4
          go_wp2_with fail
          generalize hw3 : World.setCell w2 _ _ = w3 at HFIN HK0 HG0 ⊢
          obtain ⟨g0, g1, g2, g3, g4⟩ := HG0.out
          clear hw3 e0 f0 c0
          have d0 : w3.drew.cell? _ = _ := g0
          have d1 : w3.drew.cell? _ = _ := g1
          have d2 : w3.drew.cell? _ = _ := g2
          have d3 : w3.drew.frozen? _ = _ := g3
          have d4 : w3.drew.frozen? _ = _ := g4
          obtain ⟨⟨k0, k1, k2⟩, l0, l1, l2⟩ := HK0.out
          clear HK0 HG0
          refine wp_region_held_drew (S := (fun w' => w'.cell? ⟨sb, 0, none⟩ = some (.slice (some ⟨g, off, none⟩) vals.length c))) (by kernel_rfl) d0 (fun hHeld => ?_)
          refine wpAnyH_take (i := 0) (oi := { dst := some 49, op := Op.move (Operand.tmp 0), type := 47, pos := "union.go:67", after := #[], guard := none }) (v := ?_) rfl (by kernel_rfl) (by kernel_rfl) (by kernel_rfl) (fun _ _ _ h => h) (Or.inl ⟨by rfl, ?_⟩) (by assumption) ?_
          rotate_left
          · (intro w hSw; (try dsimp only at hSw); go_simp; (try with_reducible rfl))
          try simp only [Act.put, List.setIfInBounds_toArray, List.set_cons_zero, List.set_cons_succ]
          refine wpAnyH_take (i := 1) (oi := { dst := some 50, op := Op.nilCheck (Operand.tmp 49), type := 0, pos := "union.go:67", after := #[{ on := 0, ground := Ground.data }], guard := none }) (v := ?_) rfl (by kernel_rfl) (by kernel_rfl) (by kernel_rfl) (fun _ _ _ h => h) (Or.inl ⟨by rfl, ?_⟩) (by assumption) ?_
          rotate_left
          · (intro w hSw; (try dsimp only at hSw); go_simp; (try with_reducible rfl))
          try simp only [Act.put, List.setIfInBounds_toArray, List.set_cons_zero, List.set_cons_succ]
          refine wpAnyH_take (i := 2) (oi := { dst := some 51, op := Op.fieldAddr 63 (Operand.tmp 50) 0, type := 0, pos := "union.go:67", after := #[{ on := 1, ground := Ground.data }], guard := none }) (v := ?_) rfl (by kernel_rfl) (by kernel_rfl) (by kernel_rfl) (fun _ _ _ h => h) (Or.inl ⟨by rfl, ?_⟩) (by assumption) ?_
          rotate_left
          · (intro w hSw; (try dsimp only at hSw); go_simp; (try with_reducible rfl))
          try simp only [Act.put, List.setIfInBounds_toArray, List.set_cons_zero, List.set_cons_succ]
          refine wpAnyH_take (i := 3) (oi := { dst := some 52, op := Op.load 61 (Operand.tmp 51), type := 61, pos := "union.go:67", after := #[{ on := 2, ground := Ground.data }], guard := none }) (v := ?_) rfl (by kernel_rfl) (by kernel_rfl) (by kernel_rfl) (fun _ _ _ h => h) (Or.inl ⟨by rfl, ?_⟩) (by assumption) ?_
          rotate_left
          · (intro w hSw; (try dsimp only at hSw); go_simp; (try with_reducible rfl))
          try simp only [Act.put, List.setIfInBounds_toArray, List.set_cons_zero, List.set_cons_succ]
          refine wpAnyH_take (i := 4) (oi := { dst := some 53, op := Op.move (Operand.tmp 7), type := 3, pos := "union.go:67", after := #[], guard := none }) (v := ?_) rfl (by kernel_rfl) (by kernel_rfl) (by kernel_rfl) (fun _ _ _ h => h) (Or.inl ⟨by rfl, ?_⟩) (by assumption) ?_
          rotate_left
          · (intro w hSw; (try dsimp only at hSw); go_simp; (try with_reducible rfl))
          try simp only [Act.put, List.setIfInBounds_toArray, List.set_cons_zero, List.set_cons_succ]
          refine wpAnyH_take (i := 5) (oi := { dst := some 54, op := Op.move (Operand.tmp 0), type := 47, pos := "union.go:67", after := #[], guard := none }) (v := ?_) rfl (by kernel_rfl) (by kernel_rfl) (by kernel_rfl) (fun _ _ _ h => h) (Or.inl ⟨by rfl, ?_⟩) (by assumption) ?_
          rotate_left
          · (intro w hSw; (try dsimp only at hSw); go_simp; (try with_reducible rfl))
          try simp only [Act.put, List.setIfInBounds_toArray, List.set_cons_zero, List.set_cons_succ]
          refine wpAnyH_take (i := 6) (oi := { dst := some 55, op := Op.nilCheck (Operand.tmp 54), type := 0, pos := "union.go:67", after := #[{ on := 5, ground := Ground.data }], guard := none }) (v := ?_) rfl (by kernel_rfl) (by kernel_rfl) (by kernel_rfl) (fun _ _ _ h => h) (Or.inl ⟨by rfl, ?_⟩) (by assumption) ?_
          rotate_left
          · (intro w hSw; (try dsimp only at hSw); go_simp; (try with_reducible rfl))
          try simp only [Act.put, List.setIfInBounds_toArray, List.set_cons_zero, List.set_cons_succ]
          refine wpAnyH_take (i := 7) (oi := { dst := some 56, op := Op.fieldAddr 63 (Operand.tmp 55) 0, type := 0, pos := "union.go:67", after := #[{ on := 6, ground := Ground.data }], guard := none }) (v := ?_) rfl (by kernel_rfl) (by kernel_rfl) (by kernel_rfl) (fun _ _ _ h => h) (Or.inl ⟨by rfl, ?_⟩) (by assumption) ?_
          rotate_left
          · (intro w hSw; (try dsimp only at hSw); go_simp; (try with_reducible rfl))
          try simp only [Act.put, List.setIfInBounds_toArray, List.set_cons_zero, List.set_cons_succ]
          refine wpAnyH_take (i := 8) (oi := { dst := some 57, op := Op.load 61 (Operand.tmp 56), type := 61, pos := "union.go:67", after := #[{ on := 7, ground := Ground.data }], guard := none }) (v := ?_) rfl (by kernel_rfl) (by kernel_rfl) (by kernel_rfl) (fun _ _ _ h => h) (Or.inl ⟨by rfl, ?_⟩) (by assumption) ?_
          rotate_left
          · (intro w hSw; (try dsimp only at hSw); go_simp; (try with_reducible rfl))
          try simp only [Act.put, List.setIfInBounds_toArray, List.set_cons_zero, List.set_cons_succ]
          refine wpAnyH_take (i := 9) (oi := { dst := some 58, op := Op.move (Operand.tmp 9), type := 3, pos := "union.go:67", after := #[{ on := 28, ground := Ground.gcOnly Departure.lateStores }], guard := none }) (v := ?_) rfl (by kernel_rfl) (by kernel_rfl) (by kernel_rfl) (fun _ _ _ h => h) (Or.inl ⟨by rfl, ?_⟩) (by assumption) ?_
          rotate_left
          · (intro w hSw; (try dsimp only at hSw); go_simp; (try with_reducible rfl))
          try simp only [Act.put, List.setIfInBounds_toArray, List.set_cons_zero, List.set_cons_succ]
          refine wpAnyH_take (i := 10) (oi := { dst := some 59, op := Op.move (Operand.tmp 0), type := 47, pos := "union.go:67", after := #[], guard := none }) (v := ?_) rfl (by kernel_rfl) (by kernel_rfl) (by kernel_rfl) (fun _ _ _ h => h) (Or.inl ⟨by rfl, ?_⟩) (by assumption) ?_
          rotate_left
          · (intro w hSw; (try dsimp only at hSw); go_simp; (try with_reducible rfl))
          try simp only [Act.put, List.setIfInBounds_toArray, List.set_cons_zero, List.set_cons_succ]
          refine wpAnyH_take (i := 11) (oi := { dst := some 60, op := Op.nilCheck (Operand.tmp 59), type := 0, pos := "union.go:67", after := #[{ on := 10, ground := Ground.data }], guard := none }) (v := ?_) rfl (by kernel_rfl) (by kernel_rfl) (by kernel_rfl) (fun _ _ _ h => h) (Or.inl ⟨by rfl, ?_⟩) (by assumption) ?_
          rotate_left
          · (intro w hSw; (try dsimp only at hSw); go_simp; (try with_reducible rfl))
          try simp only [Act.put, List.setIfInBounds_toArray, List.set_cons_zero, List.set_cons_succ]
          refine wpAnyH_take (i := 12) (oi := { dst := some 61, op := Op.fieldAddr 63 (Operand.tmp 60) 0, type := 0, pos := "union.go:67", after := #[{ on := 11, ground := Ground.data }], guard := none }) (v := ?_) rfl (by kernel_rfl) (by kernel_rfl) (by kernel_rfl) (fun _ _ _ h => h) (Or.inl ⟨by rfl, ?_⟩) (by assumption) ?_
          rotate_left
          · (intro w hSw; (try dsimp only at hSw); go_simp; (try with_reducible rfl))
          try simp only [Act.put, List.setIfInBounds_toArray, List.set_cons_zero, List.set_cons_succ]
          refine wpAnyH_take (i := 13) (oi := { dst := some 62, op := Op.load 61 (Operand.tmp 61), type := 61, pos := "union.go:67", after := #[{ on := 12, ground := Ground.data }], guard := none }) (v := ?_) rfl (by kernel_rfl) (by kernel_rfl) (by kernel_rfl) (fun _ _ _ h => h) (Or.inl ⟨by rfl, ?_⟩) (by assumption) ?_
          rotate_left
          · (intro w hSw; (try dsimp only at hSw); go_simp; (try with_reducible rfl))
          try simp only [Act.put, List.setIfInBounds_toArray, List.set_cons_zero, List.set_cons_succ]
          refine wpAnyH_take (i := 14) (oi := { dst := some 63, op := Op.move (Operand.tmp 9), type := 3, pos := "union.go:67", after := #[], guard := none }) (v := ?_) rfl (by kernel_rfl) (by kernel_rfl) (by kernel_rfl) (fun _ _ _ h => h) (Or.inl ⟨by rfl, ?_⟩) (by assumption) ?_
          rotate_left
          · (intro w hSw; (try dsimp only at hSw); go_simp; (try with_reducible rfl))
          try simp only [Act.put, List.setIfInBounds_toArray, List.set_cons_zero, List.set_cons_succ]
          refine wpAnyH_take (i := 15) (oi := { dst := some 64, op := Op.indexAddr 61 (Operand.tmp 62) (Operand.tmp 63), type := 0, pos := "union.go:67", after := #[{ on := 13, ground := Ground.data }, { on := 14, ground := Ground.data }], guard := none }) (v := ?_) rfl (by kernel_rfl) (by kernel_rfl) (by kernel_rfl) (fun _ _ _ h => h) (Or.inl ⟨by rfl, ?_⟩) (by assumption) ?_
          rotate_left
          · (intro w hSw; (try dsimp only at hSw); go_simp; (try with_reducible rfl))
          try simp only [Act.put, List.setIfInBounds_toArray, List.set_cons_zero, List.set_cons_succ]
          refine wpAnyH_take (i := 16) (oi := { dst := some 65, op := Op.fieldAddr 65 (Operand.tmp 64) 1, type := 0, pos := "union.go:67", after := #[{ on := 15, ground := Ground.data }], guard := none }) (v := ?_) rfl (by kernel_rfl) (by kernel_rfl) (by kernel_rfl) (fun _ _ _ h => h) (Or.inl ⟨by rfl, ?_⟩) (by assumption) ?_
          rotate_left
          · (intro w hSw; (try dsimp only at hSw); go_simp; (try with_reducible rfl))
          try simp only [Act.put, List.setIfInBounds_toArray, List.set_cons_zero, List.set_cons_succ]
          refine wpAnyH_take (i := 18) (oi := { dst := some 67, op := Op.move (Operand.tmp 0), type := 47, pos := "union.go:67", after := #[], guard := none }) (v := ?_) rfl (by kernel_rfl) (by kernel_rfl) (by kernel_rfl) (fun _ _ _ h => h) (Or.inl ⟨by rfl, ?_⟩) (by assumption) ?_
          rotate_left
          · (intro w hSw; (try dsimp only at hSw); go_simp; (try with_reducible rfl))
          try simp only [Act.put, List.setIfInBounds_toArray, List.set_cons_zero, List.set_cons_succ]
          refine wpAnyH_take (i := 19) (oi := { dst := some 68, op := Op.nilCheck (Operand.tmp 67), type := 0, pos := "union.go:67", after := #[{ on := 18, ground := Ground.data }], guard := none }) (v := ?_) rfl (by kernel_rfl) (by kernel_rfl) (by kernel_rfl) (fun _ _ _ h => h) (Or.inl ⟨by rfl, ?_⟩) (by assumption) ?_
          rotate_left
          · (intro w hSw; (try dsimp only at hSw); go_simp; (try with_reducible rfl))
          try simp only [Act.put, List.setIfInBounds_toArray, List.set_cons_zero, List.set_cons_succ]
          refine wpAnyH_take (i := 20) (oi := { dst := some 69, op := Op.fieldAddr 63 (Operand.tmp 68) 0, type := 0, pos := "union.go:67", after := #[{ on := 19, ground := Ground.data }], guard := none }) (v := ?_) rfl (by kernel_rfl) (by kernel_rfl) (by kernel_rfl) (fun _ _ _ h => h) (Or.inl ⟨by rfl, ?_⟩) (by assumption) ?_
          rotate_left
          · (intro w hSw; (try dsimp only at hSw); go_simp; (try with_reducible rfl))
          try simp only [Act.put, List.setIfInBounds_toArray, List.set_cons_zero, List.set_cons_succ]
          refine wpAnyH_take (i := 21) (oi := { dst := some 70, op := Op.load 61 (Operand.tmp 69), type := 61, pos := "union.go:67", after := #[{ on := 20, ground := Ground.data }], guard := none }) (v := ?_) rfl (by kernel_rfl) (by kernel_rfl) (by kernel_rfl) (fun _ _ _ h => h) (Or.inl ⟨by rfl, ?_⟩) (by assumption) ?_
          rotate_left
          · (intro w hSw; (try dsimp only at hSw); go_simp; (try with_reducible rfl))
          try simp only [Act.put, List.setIfInBounds_toArray, List.set_cons_zero, List.set_cons_succ]
          refine wpAnyH_take (i := 22) (oi := { dst := some 71, op := Op.move (Operand.tmp 7), type := 3, pos := "union.go:67", after := #[], guard := none }) (v := ?_) rfl (by kernel_rfl) (by kernel_rfl) (by kernel_rfl) (fun _ _ _ h => h) (Or.inl ⟨by rfl, ?_⟩) (by assumption) ?_
          rotate_left
          · (intro w hSw; (try dsimp only at hSw); go_simp; (try with_reducible rfl))
          try simp only [Act.put, List.setIfInBounds_toArray, List.set_cons_zero, List.set_cons_succ]
          refine wpAnyH_take (i := 23) (oi := { dst := some 72, op := Op.indexAddr 61 (Operand.tmp 70) (Operand.tmp 71), type := 0, pos := "union.go:67", after := #[{ on := 21, ground := Ground.data }, { on := 22, ground := Ground.data }], guard := none }) (v := ?_) rfl (by kernel_rfl) (by kernel_rfl) (by kernel_rfl) (fun _ _ _ h => h) (Or.inl ⟨by rfl, ?_⟩) (by assumption) ?_
          rotate_left
          · (intro w hSw; (try dsimp only at hSw); go_simp; (try with_reducible rfl))
          try simp only [Act.put, List.setIfInBounds_toArray, List.set_cons_zero, List.set_cons_succ]
          refine wpAnyH_take (i := 24) (oi := { dst := some 73, op := Op.fieldAddr 65 (Operand.tmp 72) 1, type := 0, pos := "union.go:67", after := #[{ on := 23, ground := Ground.data }], guard := none }) (v := ?_) rfl (by kernel_rfl) (by kernel_rfl) (by kernel_rfl) (fun _ _ _ h => h) (Or.inl ⟨by rfl, ?_⟩) (by assumption) ?_
          rotate_left
          · (intro w hSw; (try dsimp only at hSw); go_simp; (try with_reducible rfl))
          try simp only [Act.put, List.setIfInBounds_toArray, List.set_cons_zero, List.set_cons_succ]
          refine wpAnyH_ready (rs := [17, 25]) (by kernel_rfl) (by simp) ?_
          refine AllReadyH.cons (o := { dst := some 66, op := Op.load 3 (Operand.tmp 65), type := 3, pos := "union.go:67", after := #[{ on := 16, ground := Ground.data }], guard := none }) rfl (fun K hK => ?_) (AllReadyH.cons (o := { dst := some 74, op := Op.load 3 (Operand.tmp 73), type := 3, pos := "union.go:67", after := #[{ on := 24, ground := Ground.data }], guard := none }) rfl (fun K hK => ?_) AllReadyH.nil)
          case' refine_1 =>
            go_simp
            refine hK.out _ _ d0 (fun hHeld => ?_)
            clear hK K
            try simp only [Act.put, List.setIfInBounds_toArray, List.set_cons_zero, List.set_cons_succ]
            refine wpAnyH_ready (rs := [25]) (by kernel_rfl) (by simp) ?_
            refine AllReadyH.cons (o := { dst := some 74, op := Op.load 3 (Operand.tmp 73), type := 3, pos := "union.go:67", after := #[{ on := 24, ground := Ground.data }], guard := none }) rfl (fun K hK => ?_) AllReadyH.nil
            go_simp
            refine hK.out _ _ d0 (fun hHeld => ?_)
            clear hK K
            try simp only [Act.put, List.setIfInBounds_toArray, List.set_cons_zero, List.set_cons_succ]
          case' refine_2 =>
            go_simp
            refine hK.out _ _ d0 (fun hHeld => ?_)
            clear hK K
            try simp only [Act.put, List.setIfInBounds_toArray, List.set_cons_zero, List.set_cons_succ]
            refine wpAnyH_ready (rs := [17]) (by kernel_rfl) (by simp) ?_
            refine AllReadyH.cons (o := { dst := some 66, op := Op.load 3 (Operand.tmp 65), type := 3, pos := "union.go:67", after := #[{ on := 16, ground := Ground.data }], guard := none }) rfl (fun K hK => ?_) AllReadyH.nil
            go_simp
            refine hK.out _ _ d0 (fun hHeld => ?_)
            clear hK K
            try simp only [Act.put, List.setIfInBounds_toArray, List.set_cons_zero, List.set_cons_succ]
          all_goals
            refine wpAnyH_take (i := 26) (oi := { dst := some 75, op := Op.indexAddr 61 (Operand.tmp 52) (Operand.tmp 53), type := 0, pos := "union.go:67", after := #[{ on := 3, ground := Ground.data }, { on := 4, ground := Ground.data }, { on := 0, ground := Ground.phase }, { on := 1, ground := Ground.phase }, { on := 2, ground := Ground.phase }, { on := 3, ground := Ground.phase }, { on := 4, ground := Ground.phase }, { on := 5, ground := Ground.textOnly Departure.lateStores }, { on := 6, ground := Ground.textOnly Departure.lateStoresUnsure }, { on := 7, ground := Ground.textOnly Departure.lateStoresUnsure }, { on := 8, ground := Ground.phase }, { on := 9, ground := Ground.textOnly Departure.lateStores }, { on := 10, ground := Ground.phase }, { on := 11, ground := Ground.phase }, { on := 12, ground := Ground.phase }, { on := 13, ground := Ground.phase }, { on := 14, ground := Ground.phase }, { on := 15, ground := Ground.phase }, { on := 16, ground := Ground.phase }, { on := 17, ground := Ground.phase }, { on := 18, ground := Ground.textOnly Departure.lateStores }, { on := 19, ground := Ground.textOnly Departure.lateStoresUnsure }, { on := 20, ground := Ground.textOnly Departure.lateStoresUnsure }, { on := 21, ground := Ground.phase }, { on := 22, ground := Ground.textOnly Departure.lateStores }, { on := 23, ground := Ground.textOnly Departure.lateStoresUnsure }, { on := 24, ground := Ground.textOnly Departure.lateStoresUnsure }, { on := 25, ground := Ground.phase }], guard := none }) (v := ?_) rfl (by kernel_rfl) (by kernel_rfl) (by kernel_rfl) (fun _ _ _ h => h) (Or.inl ⟨by rfl, ?_⟩) (by assumption) ?_
            rotate_left
            · (intro w hSw; (try dsimp only at hSw); go_simp; (try with_reducible rfl))
            try simp only [Act.put, List.setIfInBounds_toArray, List.set_cons_zero, List.set_cons_succ]
            refine wpAnyH_take (i := 27) (oi := { dst := some 76, op := Op.fieldAddr 65 (Operand.tmp 75) 1, type := 0, pos := "union.go:67", after := #[{ on := 26, ground := Ground.data }, { on := 0, ground := Ground.phase }, { on := 1, ground := Ground.phase }, { on := 2, ground := Ground.phase }, { on := 3, ground := Ground.phase }, { on := 4, ground := Ground.phase }, { on := 5, ground := Ground.textOnly Departure.lateStores }, { on := 6, ground := Ground.textOnly Departure.lateStoresUnsure }, { on := 7, ground := Ground.textOnly Departure.lateStoresUnsure }, { on := 8, ground := Ground.phase }, { on := 9, ground := Ground.textOnly Departure.lateStores }, { on := 10, ground := Ground.phase }, { on := 11, ground := Ground.phase }, { on := 12, ground := Ground.phase }, { on := 13, ground := Ground.phase }, { on := 14, ground := Ground.phase }, { on := 15, ground := Ground.phase }, { on := 16, ground := Ground.phase }, { on := 17, ground := Ground.phase }, { on := 18, ground := Ground.textOnly Departure.lateStores }, { on := 19, ground := Ground.textOnly Departure.lateStoresUnsure }, { on := 20, ground := Ground.textOnly Departure.lateStoresUnsure }, { on := 21, ground := Ground.phase }, { on := 22, ground := Ground.textOnly Departure.lateStores }, { on := 23, ground := Ground.textOnly Departure.lateStoresUnsure }, { on := 24, ground := Ground.textOnly Departure.lateStoresUnsure }, { on := 25, ground := Ground.phase }], guard := none }) (v := ?_) rfl (by kernel_rfl) (by kernel_rfl) (by kernel_rfl) (fun _ _ _ h => h) (Or.inl ⟨by rfl, ?_⟩) (by assumption) ?_
            rotate_left
            · (intro w hSw; (try dsimp only at hSw); go_simp; (try with_reducible rfl))
            try simp only [Act.put, List.setIfInBounds_toArray, List.set_cons_zero, List.set_cons_succ]
            refine wpAnyH_ready (rs := [28]) (by kernel_rfl) (by simp) ?_
            refine AllReadyH.cons (o := { dst := none, op := Op.store 3 (Operand.tmp 76) (Operand.tmp 66), type := 0, pos := "union.go:67", after := #[{ on := 27, ground := Ground.data }, { on := 17, ground := Ground.data }, { on := 0, ground := Ground.phase }, { on := 1, ground := Ground.phase }, { on := 2, ground := Ground.phase }, { on := 3, ground := Ground.phase }, { on := 4, ground := Ground.phase }, { on := 5, ground := Ground.textOnly Departure.lateStores }, { on := 6, ground := Ground.textOnly Departure.lateStoresUnsure }, { on := 7, ground := Ground.textOnly Departure.lateStoresUnsure }, { on := 8, ground := Ground.phase }, { on := 9, ground := Ground.textOnly Departure.lateStores }, { on := 10, ground := Ground.phase }, { on := 11, ground := Ground.phase }, { on := 12, ground := Ground.phase }, { on := 13, ground := Ground.phase }, { on := 14, ground := Ground.phase }, { on := 15, ground := Ground.phase }, { on := 16, ground := Ground.phase }, { on := 17, ground := Ground.phase }, { on := 18, ground := Ground.textOnly Departure.lateStores }, { on := 19, ground := Ground.textOnly Departure.lateStoresUnsure }, { on := 20, ground := Ground.textOnly Departure.lateStoresUnsure }, { on := 21, ground := Ground.phase }, { on := 22, ground := Ground.textOnly Departure.lateStores }, { on := 23, ground := Ground.textOnly Departure.lateStoresUnsure }, { on := 24, ground := Ground.textOnly Departure.lateStoresUnsure }, { on := 25, ground := Ground.phase }], guard := none }) rfl (fun K hK => ?_) AllReadyH.nil
            go_simp
            refine hK.out _ _ k2 (fun hHeld => ?_)
            clear hK K
            try simp only [Act.put, List.setIfInBounds_toArray, List.set_cons_zero, List.set_cons_succ]
            refine wpAnyH_take (i := 29) (oi := { dst := some 77, op := Op.indexAddr 61 (Operand.tmp 57) (Operand.tmp 58), type := 0, pos := "union.go:67", after := #[{ on := 8, ground := Ground.data }, { on := 9, ground := Ground.data }, { on := 0, ground := Ground.phase }, { on := 1, ground := Ground.phase }, { on := 2, ground := Ground.phase }, { on := 3, ground := Ground.phase }, { on := 4, ground := Ground.phase }, { on := 5, ground := Ground.phase }, { on := 6, ground := Ground.phase }, { on := 7, ground := Ground.phase }, { on := 8, ground := Ground.phase }, { on := 9, ground := Ground.phase }, { on := 10, ground := Ground.phase }, { on := 11, ground := Ground.phase }, { on := 12, ground := Ground.phase }, { on := 13, ground := Ground.phase }, { on := 14, ground := Ground.phase }, { on := 15, ground := Ground.phase }, { on := 16, ground := Ground.phase }, { on := 17, ground := Ground.phase }, { on := 18, ground := Ground.phase }, { on := 19, ground := Ground.phase }, { on := 20, ground := Ground.phase }, { on := 21, ground := Ground.phase }, { on := 22, ground := Ground.phase }, { on := 23, ground := Ground.phase }, { on := 24, ground := Ground.phase }, { on := 25, ground := Ground.phase }, { on := 26, ground := Ground.phase }, { on := 27, ground := Ground.phase }, { on := 28, ground := Ground.phase }], guard := none }) (v := ?_) rfl (by kernel_rfl) (by kernel_rfl) (by kernel_rfl) (fun _ _ _ h => h) (Or.inl ⟨by rfl, ?_⟩) (by assumption) ?_
            rotate_left
            · (intro w hSw; (try dsimp only at hSw); go_simp; (try with_reducible rfl))
            try simp only [Act.put, List.setIfInBounds_toArray, List.set_cons_zero, List.set_cons_succ]
            refine wpAnyH_take (i := 30) (oi := { dst := some 78, op := Op.fieldAddr 65 (Operand.tmp 77) 1, type := 0, pos := "union.go:67", after := #[{ on := 29, ground := Ground.data }, { on := 0, ground := Ground.phase }, { on := 1, ground := Ground.phase }, { on := 2, ground := Ground.phase }, { on := 3, ground := Ground.phase }, { on := 4, ground := Ground.phase }, { on := 5, ground := Ground.phase }, { on := 6, ground := Ground.phase }, { on := 7, ground := Ground.phase }, { on := 8, ground := Ground.phase }, { on := 9, ground := Ground.phase }, { on := 10, ground := Ground.phase }, { on := 11, ground := Ground.phase }, { on := 12, ground := Ground.phase }, { on := 13, ground := Ground.phase }, { on := 14, ground := Ground.phase }, { on := 15, ground := Ground.phase }, { on := 16, ground := Ground.phase }, { on := 17, ground := Ground.phase }, { on := 18, ground := Ground.phase }, { on := 19, ground := Ground.phase }, { on := 20, ground := Ground.phase }, { on := 21, ground := Ground.phase }, { on := 22, ground := Ground.phase }, { on := 23, ground := Ground.phase }, { on := 24, ground := Ground.phase }, { on := 25, ground := Ground.phase }, { on := 26, ground := Ground.phase }, { on := 27, ground := Ground.phase }, { on := 28, ground := Ground.phase }], guard := none }) (v := ?_) rfl (by kernel_rfl) (by kernel_rfl) (by kernel_rfl) (fun _ _ _ h => h) (Or.inl ⟨by rfl, ?_⟩) (by assumption) ?_
            rotate_left
            · (intro w hSw; (try dsimp only at hSw); go_simp; (try with_reducible rfl))
            try simp only [Act.put, List.setIfInBounds_toArray, List.set_cons_zero, List.set_cons_succ]
            refine wpAnyH_ready (rs := [31]) (by kernel_rfl) (by simp) ?_
            refine AllReadyH.cons (o := { dst := none, op := Op.store 3 (Operand.tmp 78) (Operand.tmp 74), type := 0, pos := "union.go:67", after := #[{ on := 30, ground := Ground.data }, { on := 25, ground := Ground.data }, { on := 28, ground := Ground.chain }, { on := 0, ground := Ground.phase }, { on := 1, ground := Ground.phase }, { on := 2, ground := Ground.phase }, { on := 3, ground := Ground.phase }, { on := 4, ground := Ground.phase }, { on := 5, ground := Ground.phase }, { on := 6, ground := Ground.phase }, { on := 7, ground := Ground.phase }, { on := 8, ground := Ground.phase }, { on := 9, ground := Ground.phase }, { on := 10, ground := Ground.phase }, { on := 11, ground := Ground.phase }, { on := 12, ground := Ground.phase }, { on := 13, ground := Ground.phase }, { on := 14, ground := Ground.phase }, { on := 15, ground := Ground.phase }, { on := 16, ground := Ground.phase }, { on := 17, ground := Ground.phase }, { on := 18, ground := Ground.phase }, { on := 19, ground := Ground.phase }, { on := 20, ground := Ground.phase }, { on := 21, ground := Ground.phase }, { on := 22, ground := Ground.phase }, { on := 23, ground := Ground.phase }, { on := 24, ground := Ground.phase }, { on := 25, ground := Ground.phase }, { on := 26, ground := Ground.phase }, { on := 27, ground := Ground.phase }, { on := 28, ground := Ground.phase }], guard := none }) rfl (fun K hK => ?_) AllReadyH.nil
            go_simp
            refine hK.out _ _ l2 (fun hHeld => ?_)
            clear hK K
            try simp only [Act.put, List.setIfInBounds_toArray, List.set_cons_zero, List.set_cons_succ]
            refine wpAnyH_done (by kernel_rfl) ?_ _
            change Exit.then _ _ _ _ (World.setCell (World.setCell w3.drew _ _) _ _)
            generalize World.setCell (World.setCell w3.drew _ _) _ _ = wF at l0 l1 HFIN ⊢
            clear g0 g1 g2 g3 g4 d0 d1 d2 d3 d4 k0 k1 k2 l2
            go_wp2
            go_ret
            exact .inr ⟨i', j', rfl, rfl, HI.out, HJ.out, rfl, HFIN.out.1, HK2.out.trans HFIN.out.2⟩

end

end Go.Proofs.Ytodklnfdmcadkaa
