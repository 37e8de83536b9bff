/- The walk of StackPairs. -/
import Derived.Test.YthkkpnlgjkdneaaWakes1
import Derived.Test.YthkkpnlgjkdneaaRef01
import Derived.Test.YthkkpnlgjkdneaaArgsOp
import Derived.Test.YthkkpnlgjkdneaaStkBoth
import Derived.Test.YthkkpnlgjkdneaaTextsP
import Derived.Test.YthkkpnlgjkdneaaSameP
import Derived.Deep.RegionHeld3
import Derived.Deep.RegionWith
namespace Go.Proofs.Ythkkpnlgjkdneaa
open Go.ChangeShapes Go.WideShapes Go.ChangeAt Go.RowKit
set_option linter.unusedVariables false
set_option linter.unusedSimpArgs false

abbrev BothXT := BothS (α := Tok) (β := Int) 87 56 4 encT 89 3 1 encI

/-- Around a Put: the stack holds what it held, or what it is to hold; the call's own block o stands. -/
structure PutS (w w' : World) (sb rb ob : Nat) (o : Obj) (F G : Nat → Prop) (limit : Nat) (zs zs' : List (Tok)) (ys : List Int) : Prop where
  both : ∃ us, (us = zs ∨ us = zs') ∧ BothXT w' w.heap.size (.pointer (some ⟨sb, 0, none⟩)) (.pointer (some ⟨rb, 0, none⟩)) F G limit us ys
  below : Below w.heap.size w w'
  block : w'.heap[ob]? = some o
  apart : ¬ F ob

section
variable {w w1 w2 : World} {sb rb ob : Nat} {o : Obj} {F G : Nat → Prop} {limit : Nat} {zs zs' : List (Tok)} {ys : List Int}

theorem putS_kept (h : Hid (PutS w w1 sb rb ob o F G limit zs zs' ys)) (hk : Kept (fun _ => False) w1 w2) : Hid (PutS w w2 sb rb ob o F G limit zs zs' ys) := by
  obtain ⟨us, h1, h2⟩ := h.out.both
  exact Lib.hid ⟨⟨us, h1, h2.kept hk⟩, below_step h.out.below (Nat.le_refl _) hk (fun _ h => h.elim), (hk.block ob (heap_lt h.out.block) id).trans h.out.block, h.out.apart⟩

theorem putS_cell {cs : Array Value} {t : TypeId} (h : Hid (PutS w w1 sb rb ob (.cells cs t (0, 0)) F G limit zs zs' ys)) {i : Nat} {v : Value} (hi : cs[i]? = some v) : w1.cell? ⟨ob, i, none⟩ = some v := cell_of h.out.block hi

theorem putS_bad (h : Hid (PutS w w1 sb rb ob o F G limit zs zs ys)) (n : Int) (x : Tok) (v : Value) (hv : v = encT x) (hn : n < 0 ∨ (zs.length : Int) ≤ n) :
    Calls Try.prog 51 #[.pointer (some ⟨sb, 0, none⟩), .int .i64 n, v] w1 fun e w' => e = .returned (.int .i64 2) ∧ Hid (PutS w w' sb rb ob o F G limit zs zs ys) := by
  subst hv
  obtain ⟨us, hus, h2⟩ := h.out.both
  obtain rfl : us = zs := hus.elim id id
  refine (stkPutT h2.stk n x).mono ?_
  rintro e w' (⟨_, rfl, hk⟩ | ⟨j, hj, hjn, _⟩)
  · have hk' : Kept (fun _ => False) w1 w' := by first | exact hk | (subst hk; exact Kept.refl _ _)
    exact ⟨rfl, putS_kept h hk'⟩
  · omega

theorem putS_ok {j : Nat} {x : Tok} (h : Hid (PutS w w1 sb rb ob o F G limit zs (zs.set j x) ys)) (n : Int) (v : Value) (hv : v = encT x) (hj : (zs.length : Int) = j + 1 + n) (hn : 0 ≤ n) :
    Calls Try.prog 51 #[.pointer (some ⟨sb, 0, none⟩), .int .i64 n, v] w1 fun e w' => e = .returned (.int .i64 0) ∧ Hid (PutS w w' sb rb ob o F G limit zs (zs.set j x) ys) ∧ Hid (BothXT w' w.heap.size (.pointer (some ⟨sb, 0, none⟩)) (.pointer (some ⟨rb, 0, none⟩)) F G limit (zs.set j x) ys) := by
  subst hv
  obtain ⟨us, hus, h2⟩ := h.out.both
  have hl : us.length = zs.length := by rcases hus with rfl | rfl <;> simp
  have hs : us.set j x = zs.set j x := by rcases hus with rfl | rfl <;> simp
  refine (stkPutT h2.stk n x).mono ?_
  rintro e w' (⟨_, rfl, hk⟩ | ⟨j', hj', hjn, rfl, s, k⟩)
  · omega
  · obtain rfl : j' = j := by omega
    rw [hs] at s
    have hb := h2.stkStep h.out.below.size s k (fun b h => .inl h)
    exact ⟨rfl, Lib.hid ⟨⟨_, .inr rfl, hb⟩, below_step h.out.below (Nat.le_refl _) k h2.newF, (k.block ob (heap_lt h.out.block) h.out.apart).trans h.out.block, h.out.apart⟩, Lib.hid hb⟩

end

/-- The two hold the same. -/
def TIT (w : World) (B sb rb limit : Nat) : Prop :=
  ∃ (F G : Nat → Prop) (xs : List Int), BothXT w B (.pointer (some ⟨sb, 0, none⟩)) (.pointer (some ⟨rb, 0, none⟩)) F G limit (xs.map tokOf) xs ∧ ∀ x ∈ xs, InR x

set_option maxRecDepth 100000 in
set_option maxHeartbeats 2000000 in
theorem pairs_bad (limit : Int) (v : Value) (w : World) (hl : ¬ (0 ≤ limit ∧ limit ≤ 1048576)) (ops : List OpX) (hx : RdOps w v ops) :
    Calls Try.prog 21 #[.int .i64 limit, v] w fun e w' => e = .returned (.bool true) ∧ Below w.heap.size w w' := by
  obtain ⟨a, c, rfl, ka1, ka2, ka3⟩ := hx.shape
  have HL := Lib.hid hl
  unfold maxLen at ka2
  clear hx ka3 hl
  go_enter Try.func21, Try.ntmps21
  go_wp2_with fail
  refine (stkNewT limit w).mono ?_
  rintro e w1 (⟨_, rfl, rfl⟩ | ⟨l, h1, h2, _⟩)
  case inr => exact absurd (by omega) HL.out
  go_wp2_with fail
  refine (refNew limit w).mono ?_
  rintro e w1 (⟨_, rfl, rfl⟩ | ⟨l, h1, h2, _⟩)
  case inr => exact absurd (by omega) HL.out
  go_wp2_with fail
  go_loop [9] (fun i => i = .int .i64 0) (fun i => 1)
  case atStart => rfl
  case round =>
    obtain rfl := hrel
    by_cases hlt : 0 < ops.length
    · have hlt' : (0 : Int) < (ops.length : Int) := by omega
      go_wp2
      go_ret
      exact ⟨rfl, Below.refl _ _⟩
    · have hlt' : ¬ (0 : Int) < (ops.length : Int) := by omega
      go_wp2
      go_ret
      exact ⟨rfl, Below.refl _ _⟩

set_option maxRecDepth 100000 in
set_option maxHeartbeats 4000000 in
theorem pairs_ok (limit : Nat) (v : Value) (w : World) (hl : limit ≤ 1048576) (ops : List OpX) (hx : RdOps w v ops) (hin : ∀ o ∈ ops, (∀ x ∈ o.2.2, InR x) ∧ o.2.2.length ≤ 1048576) :
    Calls Try.prog 21 #[.int .i64 limit, v] w fun e w' => e = .returned (.bool true) ∧ Below w.heap.size w w' := by
  have HOPS := Lib.hid hin
  clear hin
  obtain ⟨a, c, rfl, ka1, ka2, ka3⟩ := hx.shape
  have HX := Lib.hid hx
  have KA := Lib.hid ka3
  unfold maxLen at ka2
  clear hx ka3
  go_enter Try.func21, Try.ntmps21
  go_wp2_with fail
  refine (stkNewT limit w).mono ?_
  rintro e w1 (⟨h, _⟩ | ⟨l, h1, _, rfl, s1, k1⟩)
  · exact absurd (by omega) h
  obtain rfl : l = limit := by omega
  obtain ⟨sb, hsb⟩ : ∃ sb, sb = w.heap.size := ⟨_, rfl⟩
  have S1 := Lib.hid s1
  have K1 := Lib.hid k1
  have HSB := Lib.hid hsb
  rw [← hsb] at S1 ⊢
  clear s1 k1 h1 hsb
  go_wp2_with fail
  refine (refNew l w1).mono ?_
  rintro e w2 (⟨h, _⟩ | ⟨l2, h1, _, rfl, s2, k2⟩)
  · exact absurd (by omega) h
  obtain rfl : l2 = l := by omega
  obtain ⟨rb, hrb⟩ : ∃ rb, rb = w1.heap.size := ⟨_, rfl⟩
  have HB0 := Lib.hid (show BothXT w2 w.heap.size (.pointer (some ⟨sb, 0, none⟩)) (.pointer (some ⟨w1.heap.size, 0, none⟩)) (fun b => b = sb) (fun b => b = w1.heap.size) l2 [] [] from
    ⟨S1.out.frame k2 (fun _ _ => id), s2, fun b h1 h2 => by have := S1.out.lt h1; omega, fun b h => by have := HSB.out; omega, fun b h => by have := K1.out.size; omega⟩)
  have HL0 := Lib.hid (below_step (below_step (Below.refl _ w) (Nat.le_refl _) K1.out (fun _ h => h.elim)) (Nat.le_refl _) k2 (fun _ h => h.elim))
  rw [← hrb] at HB0 ⊢
  clear s2 k2 h1 S1 K1 HSB hrb
  go_wp2_with fail
  go_loopw [9] (fun i wr => ∃ k : Nat, k ≤ ops.length ∧ i = .int .i64 k ∧ Hid (Below w.heap.size w wr ∧ TIT wr w.heap.size sb rb l2)) (fun i _ => ops.length - (intOf i).toNat)
  case atStart => exact ⟨0, Nat.zero_le _, rfl, Lib.hid ⟨HL0.out, _, _, [], HB0.out, by simp⟩⟩
  case round =>
    obtain ⟨k, hk, rfl, hH⟩ := hrel
    obtain ⟨hb, F, G, xs, hBo, hxs⟩ := hH.out
    by_cases hlt : k < ops.length
    · cases a with
      | none => exact absurd (KA.out rfl).1 (by omega)
      | some ad =>
        obtain ⟨cx0, cn0, xv, cv0, hrd⟩ := HX.out.cells hlt
        have cx := (hb.cell (World.block_lt_of_cell? _ _ cx0)).trans cx0
        have cn := (hb.cell (World.block_lt_of_cell? _ _ cn0)).trans cn0
        have cv := (hb.cell (World.block_lt_of_cell? _ _ cv0)).trans cv0
        have hol := HOPS.out _ (List.getElem_mem hlt)
        clear cx0 cn0 cv0
        generalize ops[k].1 = x at cx
        generalize ops[k].2.1 = n at cn
        generalize ops[k].2.2 = l at hrd hol
        obtain ⟨_, la, lc, rfl, l1, l2', _, _⟩ := id hrd
        obtain ⟨o, ho⟩ : ∃ o, o = Obj.cells #[.int .i64 x, .int .i64 n, .slice la l.length lc] 68 := ⟨_, rfl⟩
        have ha := (Kept.refl (fun _ => False) wr).alloc o
        have hba : Below w.heap.size w (wr.alloc o) := hb.alloc hb.size o
        have hco : (wr.alloc o).heap[wr.heap.size]? = some o := by show (wr.heap.push _)[wr.heap.size]? = _; simp
        have hF : ¬ F wr.heap.size := fun h => by have := hBo.stk.lt h; omega
        have hG : ¬ G wr.heap.size := fun h => by have := hBo.ref.lt h; omega
        have HBa := Lib.hid (hBo.kept ha)
        have Hba := Lib.hid hba
        have HCO := Lib.hid hco
        have HNF := Lib.hid hF
        have HNG := Lib.hid hG
        have HRD := Lib.hid hrd
        have HXS := Lib.hid hxs
        have HOL := Lib.hid hol
        rw [ho] at HBa Hba HCO
        clear hBo hb hH ha hba hco hF hG hrd ho o hxs hol
        by_cases h1 : x = 1
        · subst h1
          go_wp2_with fail
          refine (refPush HBa.out.ref _ l (HRD.out.later Hba.out)).mono ?_
          rintro e w3 (⟨hgt, rfl, k3⟩ | ⟨hle, rfl, G', r3, k3, g3⟩)
          · have co : w3.cell? ⟨wr.heap.size, 2, none⟩ = some (.slice la l.length lc) := k3.cell (cell_of HCO.out rfl) id
            have HB3 := Lib.hid (HBa.out.kept k3)
            have H3 := Lib.hid (below_step Hba.out (Nat.le_refl _) k3 (fun _ h => h.elim))
            have HGT := Lib.hid hgt
            clear k3 hgt
            go_wp2_with fail
            refine (textsP _ l w3 (HRD.out.later H3.out) HOL.out.1 (by have := HOL.out.2; omega)).mono ?_
            rintro e w4 ⟨tv, rfl, ot, k4, n4⟩
            have HB4 := Lib.hid (HB3.out.kept k4)
            have H4 := Lib.hid (below_step H3.out (Nat.le_refl _) k4 (fun _ h => h.elim))
            have OT := Lib.hid (show Rd w4 4 tv (l.map tokOf).length (cellsOf encT (l.map tokOf)) from by rw [List.length_map]; exact ot.rd)
            clear ot k4 n4
            go_wp2_with fail
            refine (stkPushT HB4.out.stk _ (l.map tokOf) OT.out).mono ?_
            rintro e w5 (⟨_, rfl, k5⟩ | ⟨hle, _⟩)
            case inr => exact absurd HGT.out (by simp at hle; omega)
            have Q := Lib.hid (show Below w.heap.size w w5 ∧ TIT w5 w.heap.size sb rb l2 from
              ⟨below_step H4.out (Nat.le_refl _) k5 (fun _ h => h.elim), _, _, _, HB4.out.kept k5, HXS.out⟩)
            clear k5
            go_wp2
            go_roundw
            case rel => exact ⟨k + 1, by omega, by go_num, Q⟩
            case measure => simp [intOf]; omega
          · have co : w3.cell? ⟨wr.heap.size, 2, none⟩ = some (.slice la l.length lc) := k3.cell (cell_of HCO.out rfl) HNG.out
            have HB3 := Lib.hid (HBa.out.refStep Hba.out.size r3 k3 g3)
            have H3 := Lib.hid (below_step Hba.out (Nat.le_refl _) k3 HBa.out.newG)
            have HLE := Lib.hid hle
            clear k3 hle r3 g3
            go_wp2_with fail
            refine (textsP _ l w3 (HRD.out.later H3.out) HOL.out.1 (by have := HOL.out.2; omega)).mono ?_
            rintro e w4 ⟨tv, rfl, ot, k4, n4⟩
            have HB4 := Lib.hid (HB3.out.kept k4)
            have H4 := Lib.hid (below_step H3.out (Nat.le_refl _) k4 (fun _ h => h.elim))
            have OT := Lib.hid (show Rd w4 4 tv (l.map tokOf).length (cellsOf encT (l.map tokOf)) from by rw [List.length_map]; exact ot.rd)
            clear ot k4 n4
            go_wp2_with fail
            refine (stkPushT HB4.out.stk _ (l.map tokOf) OT.out).mono ?_
            rintro e w5 (⟨hgt, _⟩ | ⟨_, rfl, F', s5, k5, f5⟩)
            · exact absurd HLE.out (by simp at hgt; omega)
            have Q := Lib.hid (show Below w.heap.size w w5 ∧ TIT w5 w.heap.size sb rb l2 from
              ⟨below_step H4.out (Nat.le_refl _) k5 HB4.out.newF, _, _, xs ++ l, by rw [List.map_append]; exact HB4.out.stkStep H4.out.size s5 k5 f5, fun z hz => (List.mem_append.1 hz).elim (HXS.out z) (HOL.out.1 z)⟩)
            clear k5 s5 f5
            go_wp2
            go_roundw
            case rel => exact ⟨k + 1, by omega, by go_num, Q⟩
            case measure => simp [intOf]; omega
        · have b1 : (x == 1) = false := by simp [h1]
          by_cases h2 : x = 2
          · subst h2
            clear h1
            go_wp2_with fail
            refine (refPop HBa.out.ref n).mono ?_
            rintro e w3 (⟨hn, rfl, rfl⟩ | ⟨hn, rfl, rfl⟩ | ⟨j, lv, G', hj, hjl, rfl, ol, nl, r3, k3, g3⟩)
            · have HN := Lib.hid hn
              clear hn
              go_wp2_with fail
              refine (stkPopT HBa.out.stk n).mono ?_
              rintro e w3 (⟨_, rfl, rfl⟩ | ⟨hn, _⟩ | ⟨j, lv, hj, hjl, _⟩)
              case inr.inl => exact absurd HN.out (by omega)
              case inr.inr => exact absurd HN.out (by omega)
              go_wp2_with fail
              refine (textsP _ [] _ (Own.nil _ 3 1).rd (by simp) (by simp)).mono ?_
              rintro e w4 ⟨tv, rfl, ot, k4, n4⟩
              have OT := Lib.hid ot.rd
              have HB4 := Lib.hid (HBa.out.kept k4)
              have H4 := Lib.hid (below_step Hba.out (Nat.le_refl _) k4 (fun _ h => h.elim))
              clear ot k4 n4
              go_wp2_with fail
              refine (sameP _ _ [] [] _ OT.out (Own.nil _ 56 4).rd).mono ?_
              rintro e w5 ⟨rfl, k5⟩
              rw [decide_eq_true (rfl : ([] : List (Tok)) = [])]
              have Q := Lib.hid (show Below w.heap.size w w5 ∧ TIT w5 w.heap.size sb rb l2 from
                ⟨below_step H4.out (Nat.le_refl _) k5 (fun _ h => h.elim), _, _, _, HB4.out.kept k5, HXS.out⟩)
              clear k5
              go_wp2
              go_roundw
              case rel => exact ⟨k + 1, by omega, by go_num, Q⟩
              case measure => simp [intOf]; omega
            · have HN := Lib.hid hn
              clear hn
              go_wp2_with fail
              refine (stkPopT HBa.out.stk n).mono ?_
              rintro e w3 (⟨hn, _⟩ | ⟨_, rfl, rfl⟩ | ⟨j, lv, hj, hjl, _⟩)
              case inl => exact absurd HN.out (by omega)
              case inr.inr => exact absurd HN.out (by simp at hj; omega)
              go_wp2_with fail
              refine (textsP _ [] _ (Own.nil _ 3 1).rd (by simp) (by simp)).mono ?_
              rintro e w4 ⟨tv, rfl, ot, k4, n4⟩
              have OT := Lib.hid ot.rd
              have HB4 := Lib.hid (HBa.out.kept k4)
              have H4 := Lib.hid (below_step Hba.out (Nat.le_refl _) k4 (fun _ h => h.elim))
              clear ot k4 n4
              go_wp2_with fail
              refine (sameP _ _ [] [] _ OT.out (Own.nil _ 56 4).rd).mono ?_
              rintro e w5 ⟨rfl, k5⟩
              rw [decide_eq_true (rfl : ([] : List (Tok)) = [])]
              have Q := Lib.hid (show Below w.heap.size w w5 ∧ TIT w5 w.heap.size sb rb l2 from
                ⟨below_step H4.out (Nat.le_refl _) k5 (fun _ h => h.elim), _, _, _, HB4.out.kept k5, HXS.out⟩)
              clear k5
              go_wp2
              go_roundw
              case rel => exact ⟨k + 1, by omega, by go_num, Q⟩
              case measure => simp [intOf]; omega
            · have co : w3.cell? ⟨wr.heap.size, 1, none⟩ = some (.int .i64 n) := k3.cell (cell_of HCO.out rfl) HNG.out
              have HB3 := Lib.hid (HBa.out.refStep Hba.out.size r3 k3 g3)
              have H3 := Lib.hid (below_step Hba.out (Nat.le_refl _) k3 HBa.out.newG)
              have HJ := Lib.hid hj
              have HJL := Lib.hid hjl
              have hlim := r3
              obtain ⟨_, _, _, _, _, _, ⟨hlm, hlm2⟩, _⟩ := hlim
              rw [show xs.length - j = (xs.drop j).length by simp] at ol
              have HXL := Lib.hid (show xs.length ≤ 1048576 from by
                have h := HBa.out.ref
                obtain ⟨_, _, _, _, _, _, ⟨h1, h2⟩, _⟩ := h
                omega)
              have OL := Lib.hid ol
              have NL := Lib.hid (show ∀ b, lv.ownBlock = some b → ¬ F b from fun b hb hf => by have := (nl b hb).1; have := HBa.out.stk.lt hf; omega)
              clear k3 r3 g3 hj hjl ol nl hlm hlm2
              go_wp2_with fail
              refine (stkPopT HB3.out.stk n).mono ?_
              rintro e w4 (⟨hn, _⟩ | ⟨hn, _⟩ | ⟨j', mv, hj', _, rfl, om, nm, s4, k4⟩)
              · exact absurd HJ.out (by have := HJL.out; omega)
              · exact absurd HJ.out (by simp at hn; omega)
              obtain rfl : j' = j := by have := HJ.out; simp at hj'; omega
              have HB4 := Lib.hid (HB3.out.stkStep H3.out.size s4 k4 (fun b h => .inl h))
              have H4 := Lib.hid (below_step H3.out (Nat.le_refl _) k4 HB3.out.newF)
              have OM := Lib.hid (show Own w4 56 4 mv ((xs.drop j').map tokOf).length (cellsOf encT ((xs.drop j').map tokOf)) from by
                rw [List.map_drop, List.length_drop]
                exact om)
              have OL4 := Lib.hid (OL.out.frame k4 NL.out)
              clear om nm s4 k4 hj'
              go_wp2_with fail
              refine (textsP _ (xs.drop j') w4 OL4.out.rd (fun z hz => HXS.out z (List.mem_of_mem_drop hz)) (by have := HXL.out; simp; omega)).mono ?_
              rintro e w5 ⟨tv, rfl, ot, k5, n5⟩
              have OT := Lib.hid (show Rd w5 4 tv ((xs.drop j').map tokOf).length (cellsOf encT ((xs.drop j').map tokOf)) from by rw [List.length_map]; exact ot.rd)
              have OM5 := Lib.hid (OM.out.frame k5 (fun _ _ => id))
              have HB5 := Lib.hid (HB4.out.kept k5)
              have H5 := Lib.hid (below_step H4.out (Nat.le_refl _) k5 (fun _ h => h.elim))
              clear ot k5 n5
              go_wp2_with fail
              refine (sameP _ _ ((xs.drop j').map tokOf) ((xs.drop j').map tokOf) w5 OT.out OM5.out.rd).mono ?_
              rintro e w6 ⟨rfl, k6⟩
              rw [decide_eq_true (rfl : (xs.drop j').map tokOf = (xs.drop j').map tokOf)]
              have Q := Lib.hid (show Below w.heap.size w w6 ∧ TIT w6 w.heap.size sb rb l2 from
                ⟨below_step H5.out (Nat.le_refl _) k6 (fun _ h => h.elim), _, _, xs.take j', by rw [List.map_take]; exact HB5.out.kept k6, fun z hz => HXS.out z (List.mem_of_mem_take hz)⟩)
              clear k6
              go_wp2
              go_roundw
              case rel => exact ⟨k + 1, by omega, by go_num, Q⟩
              case measure => simp [intOf]; omega
          · have b2 : (x == 2) = false := by simp [h2]
            by_cases h3 : x = 3
            · subst h3
              clear h1 h2
              go_wp2_with fail
              refine (refPeek HBa.out.ref n).mono ?_
              rintro e w3 (⟨hn, rfl, k3⟩ | ⟨j, hj, hjn, rfl, k3⟩)
              · have co : w3.cell? ⟨wr.heap.size, 1, none⟩ = some (.int .i64 n) := k3.cell (cell_of HCO.out rfl) id
                have HB3 := Lib.hid (HBa.out.kept k3)
                have H3 := Lib.hid (below_step Hba.out (Nat.le_refl _) k3 (fun _ h => h.elim))
                have HN := Lib.hid hn
                clear k3 hn
                go_wp2_with fail
                refine (stkPeekT HB3.out.stk n).mono ?_
                rintro e w4 (⟨_, rfl, k4⟩ | ⟨j, hj, hjn, _⟩)
                case inr => exact absurd HN.out (by simp at hjn hj; omega)
                have HB4 := Lib.hid (HB3.out.kept k4)
                have H4 := Lib.hid (below_step H3.out (Nat.le_refl _) k4 (fun _ h => h.elim))
                clear k4
                go_wp2_with fail
                have hz := heap_alloc_new w4 (.cells #[.int .i64 0, .string ⟨#[]⟩, .int .i64 0, .int .i64 0] 56)
                have HB5 := Lib.hid (HB4.out.kept ((Kept.refl _ w4).alloc (.cells #[.int .i64 0, .string ⟨#[]⟩, .int .i64 0, .int .i64 0] 56)))
                have H5 := Lib.hid (H4.out.alloc H4.out.size (.cells #[.int .i64 0, .string ⟨#[]⟩, .int .i64 0, .int .i64 0] 56))
                have hneq := fun w => run_neq_tok w (0, [], 0, 0) (0, [], 0, 0)
                rw [decide_eq_true rfl] at hneq
                simp only [encT, Bool.not_true] at hneq
                generalize w4.alloc (.cells #[.int .i64 0, .string ⟨#[]⟩, .int .i64 0, .int .i64 0] 56) = w5 at hz HB5 H5 ⊢
                have z0 : w5.cell? ⟨w4.heap.size, 0, none⟩ = some (.int .i64 0) := cell_of hz rfl
                have z1 : w5.cell? ⟨w4.heap.size, 1, none⟩ = some (.string ⟨#[]⟩) := cell_of hz rfl
                have z2 : w5.cell? ⟨w4.heap.size, 2, none⟩ = some (.int .i64 0) := cell_of hz rfl
                have z3 : w5.cell? ⟨w4.heap.size, 3, none⟩ = some (.int .i64 0) := cell_of hz rfl
                clear hz
                go_quiet (fail)
                have Q := Lib.hid (show Below w.heap.size w (w5.drewN nq) ∧ TIT (w5.drewN nq) w.heap.size sb rb l2 from ⟨below_step H5.out (Nat.le_refl _) ((Kept.refl (fun _ => False) w5).drewN nq) (fun _ h => h.elim), _, _, _, HB5.out.kept ((Kept.refl _ w5).drewN nq), HXS.out⟩)
                go_wp2
                go_roundw
                case rel => exact ⟨k + 1, by omega, by go_num, Q⟩
                case measure => simp [intOf]; omega
              · have co : w3.cell? ⟨wr.heap.size, 1, none⟩ = some (.int .i64 n) := k3.cell (cell_of HCO.out rfl) id
                have HB3 := Lib.hid (HBa.out.kept k3)
                have H3 := Lib.hid (below_step Hba.out (Nat.le_refl _) k3 (fun _ h => h.elim))
                have HJ := Lib.hid hjn
                have HZ := Lib.hid (HXS.out _ (List.getElem_mem hj))
                clear k3 hjn
                go_wp2_with fail
                refine (stkPeekT HB3.out.stk n).mono ?_
                rintro e w4 (⟨hn, _⟩ | ⟨j', hj', hjn', rfl, k4⟩)
                · exact absurd HJ.out (by simp at hn; omega)
                obtain rfl : j' = j := by have := HJ.out; simp at hjn'; omega
                have HB4 := Lib.hid (HB3.out.kept k4)
                have H4 := Lib.hid (below_step H3.out (Nat.le_refl _) k4 (fun _ h => h.elim))
                rw [List.getElem_map]
                have hpair := fun w => pair_tok xs[j'] w HZ.out.1 HZ.out.2
                have hneq := fun w => run_neq_tok w (tokOf xs[j']) (tokOf xs[j'])
                rw [decide_eq_true rfl] at hneq
                simp only [encT, tokOf, Bool.not_true] at hneq hpair ⊢
                generalize xs[j'] = z at HZ hpair hneq ⊢
                generalize (textB z).toArray = zt at hpair hneq ⊢
                have HPR := Lib.hid hpair
                clear hj hj' hjn' k4 hpair
                go_wp2_with fail
                have hz := heap_alloc_new w4 (.cells #[.int .i64 z, .string ⟨zt⟩, .int .i64 0, .int .i64 0] 56)
                have HB5 := Lib.hid (HB4.out.kept ((Kept.refl _ w4).alloc (.cells #[.int .i64 z, .string ⟨zt⟩, .int .i64 0, .int .i64 0] 56)))
                have H5 := Lib.hid (H4.out.alloc H4.out.size (.cells #[.int .i64 z, .string ⟨zt⟩, .int .i64 0, .int .i64 0] 56))
                generalize w4.alloc (.cells #[.int .i64 z, .string ⟨zt⟩, .int .i64 0, .int .i64 0] 56) = w5 at hz HB5 H5 ⊢
                have z0 : w5.cell? ⟨w4.heap.size, 0, none⟩ = some (.int .i64 z) := cell_of hz rfl
                have z1 : w5.cell? ⟨w4.heap.size, 1, none⟩ = some (.string ⟨zt⟩) := cell_of hz rfl
                have z2 : w5.cell? ⟨w4.heap.size, 2, none⟩ = some (.int .i64 0) := cell_of hz rfl
                have z3 : w5.cell? ⟨w4.heap.size, 3, none⟩ = some (.int .i64 0) := cell_of hz rfl
                have HZH := Lib.hid hz
                clear hz
                have zd0 : w5.drew.cell? ⟨w4.heap.size, 0, none⟩ = some (.int .i64 z) := z0
                have zd1 : w5.drew.cell? ⟨w4.heap.size, 1, none⟩ = some (.string ⟨zt⟩) := z1
                have zd2 : w5.drew.cell? ⟨w4.heap.size, 2, none⟩ = some (.int .i64 0) := z2
                have zd3 : w5.drew.cell? ⟨w4.heap.size, 3, none⟩ = some (.int .i64 0) := z3
                have KD := Lib.hid (show Below w.heap.size w w5.drew ∧ TIT w5.drew w.heap.size sb rb l2 from ⟨H5.out.drew, _, _, _, HB5.out.kept ((Kept.refl _ w5).drew), HXS.out⟩)
                clear HX KA HOPS HB0 HL0 HCO HRD HOL HNF HNG HBa Hba HB3 H3 HB4 H4 HJ HZH HB5 H5 HXS z0 z1 z2 z3 co HZ
                refine wp_region_held_drew (S := (fun w' => w'.cell? ⟨w4.heap.size, 0, none⟩ = some (.int .i64 z) ∧ w'.cell? ⟨w4.heap.size, 1, none⟩ = some (.string ⟨zt⟩) ∧ w'.cell? ⟨w4.heap.size, 2, none⟩ = some (.int .i64 0) ∧ w'.cell? ⟨w4.heap.size, 3, none⟩ = some (.int .i64 0))) (by kernel_rfl) ⟨zd0, zd1, zd2, zd3⟩ (fun hHeld => ?_)
                refine wpAnyH_take (i := 0) (oi := { dst := some 137, op := Op.move (Operand.tmp 20), type := 25, pos := "law.go:164", after := #[], guard := none }) (v := ?_) rfl (by kernel_rfl) (by kernel_rfl) (by kernel_rfl) (fun _ _ _ h => h) (Or.inl ⟨by rfl, ?_⟩) (by assumption) ?_
                rotate_left
                · (intro w hSw; (try dsimp only at hSw); go_simp; (try with_reducible rfl))
                try simp only [Act.put, List.setIfInBounds_toArray, List.set_cons_zero, List.set_cons_succ]
                refine wpAnyH_take (i := 1) (oi := { dst := some 138, op := Op.move (Operand.tmp 18), type := 25, pos := "law.go:164", after := #[], guard := none }) (v := ?_) rfl (by kernel_rfl) (by kernel_rfl) (by kernel_rfl) (fun _ _ _ h => h) (Or.inl ⟨by rfl, ?_⟩) (by assumption) ?_
                rotate_left
                · (intro w hSw; (try dsimp only at hSw); go_simp; (try with_reducible rfl))
                try simp only [Act.put, List.setIfInBounds_toArray, List.set_cons_zero, List.set_cons_succ]
                refine wpAnyH_take (i := 2) (oi := { dst := some 139, op := Op.binOp BinOp.neq 25 (Operand.tmp 137) (Operand.tmp 138) 25, type := 4, pos := "law.go:164", after := #[{ on := 0, ground := Ground.data }, { on := 1, ground := Ground.data }], guard := none }) (v := ?_) rfl (by kernel_rfl) (by kernel_rfl) (by kernel_rfl) (fun _ _ _ h => h) (Or.inl ⟨by rfl, ?_⟩) (by assumption) ?_
                rotate_left
                · (intro w hSw; (try dsimp only at hSw); go_simp; (try with_reducible rfl))
                try simp only [Act.put, List.setIfInBounds_toArray, List.set_cons_zero, List.set_cons_succ]
                refine wpAnyH_take (i := 3) (oi := { dst := some 140, op := Op.move (Operand.tmp 139), type := 4, pos := "law.go:164", after := #[{ on := 2, ground := Ground.data }], guard := none }) (v := ?_) rfl (by kernel_rfl) (by kernel_rfl) (by kernel_rfl) (fun _ _ _ h => h) (Or.inl ⟨by rfl, ?_⟩) (by assumption) ?_
                rotate_left
                · (intro w hSw; (try dsimp only at hSw); go_simp; (try with_reducible rfl))
                try simp only [Act.put, List.setIfInBounds_toArray, List.set_cons_zero, List.set_cons_succ]
                refine wpAnyH_take (i := 4) (oi := { dst := some 141, op := Op.move (Operand.tmp 18), type := 25, pos := "law.go:164", after := #[{ on := 3, ground := Ground.guard }], guard := some (3, false) }) (v := ?_) rfl (by kernel_rfl) (by kernel_rfl) (by kernel_rfl) (fun _ _ _ h => h) (Or.inl ⟨by rfl, ?_⟩) (by assumption) ?_
                rotate_left
                · (intro w hSw; (try dsimp only at hSw); go_simp; (try with_reducible rfl))
                try simp only [Act.put, List.setIfInBounds_toArray, List.set_cons_zero, List.set_cons_succ]
                refine wpAnyH_take (i := 5) (oi := { dst := some 142, op := Op.binOp BinOp.eql 25 (Operand.tmp 141) (Operand.const (Value.int IntKind.i64 0)) 25, type := 4, pos := "law.go:164", after := #[{ on := 4, ground := Ground.data }, { on := 3, ground := Ground.guard }], guard := some (3, false) }) (v := ?_) rfl (by kernel_rfl) (by kernel_rfl) (by kernel_rfl) (fun _ _ _ h => h) (Or.inl ⟨by rfl, ?_⟩) (by assumption) ?_
                rotate_left
                · (intro w hSw; (try dsimp only at hSw); go_simp; (try with_reducible rfl))
                try simp only [Act.put, List.setIfInBounds_toArray, List.set_cons_zero, List.set_cons_succ]
                refine wpAnyH_take (i := 6) (oi := { dst := some 143, op := Op.move (Operand.tmp 142), type := 4, pos := "law.go:164", after := #[{ on := 5, ground := Ground.data }, { on := 3, ground := Ground.chain }, { on := 3, ground := Ground.guard }], guard := some (3, false) }) (v := ?_) rfl (by kernel_rfl) (by kernel_rfl) (by kernel_rfl) (fun _ _ _ h => h) (Or.inl ⟨by rfl, ?_⟩) (by assumption) ?_
                rotate_left
                · (intro w hSw; (try dsimp only at hSw); go_simp; (try with_reducible rfl))
                try simp only [Act.put, List.setIfInBounds_toArray, List.set_cons_zero, List.set_cons_succ]
                refine wpAnyH_take (i := 7) (oi := { dst := some 144, op := Op.load 56 (Operand.tmp 19), type := 56, pos := "law.go:164", after := #[{ on := 6, ground := Ground.guard }], guard := some (6, true) }) (v := ?_) rfl (by kernel_rfl) (by kernel_rfl) (by kernel_rfl) (fun _ _ _ h => h) (Or.inl ⟨by rfl, ?_⟩) (by assumption) ?_
                rotate_left
                · (intro w hSw; (try dsimp only at hSw); go_simp; (try with_reducible rfl))
                try simp only [Act.put, List.setIfInBounds_toArray, List.set_cons_zero, List.set_cons_succ]
                refine wpAnyH_take (i := 8) (oi := { dst := some 145, op := Op.move (Operand.tmp 17), type := 3, pos := "law.go:164", after := #[{ on := 6, ground := Ground.guard }], guard := some (6, true) }) (v := ?_) rfl (by kernel_rfl) (by kernel_rfl) (by kernel_rfl) (fun _ _ _ h => h) (Or.inl ⟨by rfl, ?_⟩) (by assumption) ?_
                rotate_left
                · (intro w hSw; (try dsimp only at hSw); go_simp; (try with_reducible rfl))
                try simp only [Act.put, List.setIfInBounds_toArray, List.set_cons_zero, List.set_cons_succ]
                refine wpAnyH_ready (rs := [9]) (by kernel_rfl) (by simp) ?_
                refine AllReadyH.cons (o := { dst := some 146, op := Op.call { callee := Callee.value (Operand.func 50), args := #[Operand.tmp 145], argTypes := #[3] }, type := 56, pos := "law.go:164", after := #[{ on := 8, ground := Ground.data }, { on := 6, ground := Ground.chain }, { on := 6, ground := Ground.guard }], guard := some (6, true) }) rfl (fun K hK => ?_) AllReadyH.nil
                go_simp
                go_at_call 50
                refine (HPR.out _).mono ?_
                rintro e w6 ⟨rfl, k6⟩
                try go_wp2_with fail
                refine hK.out _ _ ⟨k6.cell zd0 id, k6.cell zd1 id, k6.cell zd2 id, k6.cell zd3 id⟩ (fun hHeld => ?_)
                clear hK K
                try simp only [Act.put, List.setIfInBounds_toArray, List.set_cons_zero, List.set_cons_succ]
                refine wpAnyH_take (i := 10) (oi := { dst := some 147, op := Op.binOp BinOp.neq 56 (Operand.tmp 144) (Operand.tmp 146) 56, type := 4, pos := "law.go:164", after := #[{ on := 7, ground := Ground.data }, { on := 9, ground := Ground.data }, { on := 6, ground := Ground.guard }], guard := some (6, true) }) (v := ?_) rfl (by kernel_rfl) (by kernel_rfl) (by kernel_rfl) (fun _ _ _ h => h) (Or.inl ⟨by rfl, ?_⟩) (by assumption) ?_
                rotate_left
                · (intro w hSw; (try dsimp only at hSw); go_simp; (try with_reducible rfl))
                try simp only [Act.put, List.setIfInBounds_toArray, List.set_cons_zero, List.set_cons_succ]
                refine wpAnyH_take (i := 11) (oi := { dst := some 148, op := Op.pick (Operand.tmp 143) (Operand.tmp 147) (Operand.const (Value.bool false)), type := 4, pos := "law.go:164", after := #[{ on := 6, ground := Ground.data }, { on := 10, ground := Ground.data }, { on := 3, ground := Ground.guard }], guard := some (3, false) }) (v := ?_) rfl (by kernel_rfl) (by kernel_rfl) (by kernel_rfl) (fun _ _ _ h => h) (Or.inl ⟨by rfl, ?_⟩) (by assumption) ?_
                rotate_left
                · (intro w hSw; (try dsimp only at hSw); go_simp; (try with_reducible rfl))
                try simp only [Act.put, List.setIfInBounds_toArray, List.set_cons_zero, List.set_cons_succ]
                refine wpAnyH_take (i := 12) (oi := { dst := some 149, op := Op.pick (Operand.tmp 140) (Operand.const (Value.bool true)) (Operand.tmp 148), type := 4, pos := "law.go:164", after := #[{ on := 3, ground := Ground.data }, { on := 11, ground := Ground.data }], guard := none }) (v := ?_) rfl (by kernel_rfl) (by kernel_rfl) (by kernel_rfl) (fun _ _ _ h => h) (Or.inl ⟨by rfl, ?_⟩) (by assumption) ?_
                rotate_left
                · (intro w hSw; (try dsimp only at hSw); go_simp; (try with_reducible rfl))
                try simp only [Act.put, List.setIfInBounds_toArray, List.set_cons_zero, List.set_cons_succ]
                refine wpAnyH_take (i := 13) (oi := { dst := some 150, op := Op.move (Operand.tmp 149), type := 4, pos := "law.go:164", after := #[{ on := 12, ground := Ground.data }, { on := 9, ground := Ground.chain }], guard := none }) (v := ?_) rfl (by kernel_rfl) (by kernel_rfl) (by kernel_rfl) (fun _ _ _ h => h) (Or.inl ⟨by rfl, ?_⟩) (by assumption) ?_
                rotate_left
                · (intro w hSw; (try dsimp only at hSw); go_simp; (try with_reducible rfl))
                try simp only [Act.put, List.setIfInBounds_toArray, List.set_cons_zero, List.set_cons_succ]
                refine wpAnyH_take (i := 14) (oi := { dst := some 151, op := Op.move (Operand.tmp 18), type := 25, pos := "law.go:164", after := #[{ on := 13, ground := Ground.guard }], guard := some (13, false) }) (v := ?_) rfl (by kernel_rfl) (by kernel_rfl) (by kernel_rfl) (fun _ _ _ h => h) (Or.inl ⟨by rfl, ?_⟩) (by assumption) ?_
                rotate_left
                · (intro w hSw; (try dsimp only at hSw); go_simp; (try with_reducible rfl))
                try simp only [Act.put, List.setIfInBounds_toArray, List.set_cons_zero, List.set_cons_succ]
                refine wpAnyH_take (i := 15) (oi := { dst := some 152, op := Op.binOp BinOp.neq 25 (Operand.tmp 151) (Operand.const (Value.int IntKind.i64 0)) 25, type := 4, pos := "law.go:164", after := #[{ on := 14, ground := Ground.data }, { on := 13, ground := Ground.guard }], guard := some (13, false) }) (v := ?_) rfl (by kernel_rfl) (by kernel_rfl) (by kernel_rfl) (fun _ _ _ h => h) (Or.inl ⟨by rfl, ?_⟩) (by assumption) ?_
                rotate_left
                · (intro w hSw; (try dsimp only at hSw); go_simp; (try with_reducible rfl))
                try simp only [Act.put, List.setIfInBounds_toArray, List.set_cons_zero, List.set_cons_succ]
                refine wpAnyH_take (i := 16) (oi := { dst := some 153, op := Op.move (Operand.tmp 152), type := 4, pos := "law.go:164", after := #[{ on := 15, ground := Ground.data }, { on := 13, ground := Ground.chain }, { on := 13, ground := Ground.guard }], guard := some (13, false) }) (v := ?_) rfl (by kernel_rfl) (by kernel_rfl) (by kernel_rfl) (fun _ _ _ h => h) (Or.inl ⟨by rfl, ?_⟩) (by assumption) ?_
                rotate_left
                · (intro w hSw; (try dsimp only at hSw); go_simp; (try with_reducible rfl))
                try simp only [Act.put, List.setIfInBounds_toArray, List.set_cons_zero, List.set_cons_succ]
                refine wpAnyH_take (i := 17) (oi := { dst := some 154, op := Op.load 56 (Operand.tmp 19), type := 56, pos := "law.go:164", after := #[{ on := 16, ground := Ground.guard }], guard := some (16, true) }) (v := undef) rfl (by kernel_rfl) (by kernel_rfl) (by kernel_rfl) (fun _ _ _ h => h) (Or.inr ⟨by rfl, rfl⟩) (by assumption) ?_
                try simp only [Act.put, List.setIfInBounds_toArray, List.set_cons_zero, List.set_cons_succ]
                refine wpAnyH_take (i := 18) (oi := { dst := some 155, op := Op.build 56 #[], type := 56, pos := "law.go:164", after := #[{ on := 16, ground := Ground.guard }], guard := some (16, true) }) (v := undef) rfl (by kernel_rfl) (by kernel_rfl) (by kernel_rfl) (fun _ _ _ h => h) (Or.inr ⟨by rfl, rfl⟩) (by assumption) ?_
                try simp only [Act.put, List.setIfInBounds_toArray, List.set_cons_zero, List.set_cons_succ]
                refine wpAnyH_take (i := 19) (oi := { dst := some 156, op := Op.binOp BinOp.neq 56 (Operand.tmp 154) (Operand.tmp 155) 56, type := 4, pos := "law.go:164", after := #[{ on := 17, ground := Ground.data }, { on := 18, ground := Ground.data }, { on := 16, ground := Ground.guard }], guard := some (16, true) }) (v := undef) rfl (by kernel_rfl) (by kernel_rfl) (by kernel_rfl) (fun _ _ _ h => h) (Or.inr ⟨by rfl, rfl⟩) (by assumption) ?_
                try simp only [Act.put, List.setIfInBounds_toArray, List.set_cons_zero, List.set_cons_succ]
                refine wpAnyH_take (i := 20) (oi := { dst := some 157, op := Op.pick (Operand.tmp 153) (Operand.tmp 156) (Operand.const (Value.bool false)), type := 4, pos := "law.go:164", after := #[{ on := 16, ground := Ground.data }, { on := 19, ground := Ground.data }, { on := 13, ground := Ground.guard }], guard := some (13, false) }) (v := ?_) rfl (by kernel_rfl) (by kernel_rfl) (by kernel_rfl) (fun _ _ _ h => h) (Or.inl ⟨by rfl, ?_⟩) (by assumption) ?_
                rotate_left
                · (intro w hSw; (try dsimp only at hSw); go_simp; (try with_reducible rfl))
                try simp only [Act.put, List.setIfInBounds_toArray, List.set_cons_zero, List.set_cons_succ]
                refine wpAnyH_take (i := 21) (oi := { dst := some 158, op := Op.pick (Operand.tmp 150) (Operand.const (Value.bool true)) (Operand.tmp 157), type := 4, pos := "law.go:164", after := #[{ on := 13, ground := Ground.data }, { on := 20, ground := Ground.data }], guard := none }) (v := ?_) rfl (by kernel_rfl) (by kernel_rfl) (by kernel_rfl) (fun _ _ _ h => h) (Or.inl ⟨by rfl, ?_⟩) (by assumption) ?_
                rotate_left
                · (intro w hSw; (try dsimp only at hSw); go_simp; (try with_reducible rfl))
                try simp only [Act.put, List.setIfInBounds_toArray, List.set_cons_zero, List.set_cons_succ]
                refine wpAnyH_done (by kernel_rfl) ?_ _
                have K6 := Lib.hid k6
                clear k6 hHeld
                have Q := Lib.hid (show Below w.heap.size w w6 ∧ TIT w6 w.heap.size sb rb l2 from by
                  obtain ⟨q1, F1, G1, x1, q2, q3⟩ := KD.out
                  exact ⟨below_step q1 (Nat.le_refl _) K6.out (fun _ h => h.elim), F1, G1, x1, q2.kept K6.out, q3⟩)
                go_wp2
                go_roundw
                case rel => exact ⟨k + 1, by omega, by go_num, Q⟩
                case measure => simp [intOf]; omega
            · have b3 : (x == 3) = false := by simp [h3]
              by_cases h4 : x = 4
              · subst h4
                clear h1 h2 h3
                have c1 : (wr.alloc (.cells #[.int .i64 4, .int .i64 n, .slice la l.length lc] 68)).cell? ⟨wr.heap.size, 1, none⟩ = some (.int .i64 n) := cell_of HCO.out rfl
                have c2 : (wr.alloc (.cells #[.int .i64 4, .int .i64 n, .slice la l.length lc] 68)).cell? ⟨wr.heap.size, 2, none⟩ = some (.slice la l.length lc) := cell_of HCO.out rfl
                go_wp2_with fail
                have HR0 := Lib.hid (HRD.out.later Hba.out)
                have hfst := fun (W : World) (h : Rd W 1 (.slice la l.length lc) l.length (cellsOf encI l)) => first_any _ l W h
                have HF0 : Hid (InR (l.headD 0)) := Lib.hid (by
                  cases l with
                  | nil => exact ⟨by simp, by simp⟩
                  | cons z l => exact HOL.out.1 z (by simp))
                generalize l.headD 0 = f0 at hfst HF0
                have HFST := Lib.hid hfst
                clear hfst
                generalize wr.alloc (.cells #[.int .i64 4, .int .i64 n, .slice la l.length lc] 68) = wa at HBa Hba HCO c1 c2 HR0 ⊢
                refine wp_region_still_tail 6 (by kernel_rfl) (by kernel_rfl) ?_
                simp only [List.take_succ_cons, List.take_zero, List.drop_succ_cons, List.drop_zero]
                repeat still_step
                still_call (HFST.out _ HR0.out.drew)
                repeat still_step
                refine wpStill_nil ?_
                change wpList _ _ _ _ _ wa.drew
                have HBd := Lib.hid (HBa.out.kept ((Kept.refl _ wa).drew))
                have Hbd := Lib.hid (show Below w.heap.size w wa.drew from Hba.out.drew)
                have HCD := Lib.hid (show wa.drew.heap[wr.heap.size]? = some (.cells #[.int .i64 4, .int .i64 n, .slice la l.length lc] 68 (0, 0)) from HCO.out)
                clear HBa Hba HCO c1 c2 HR0
                generalize wa.drew = wd at HBd Hbd HCD ⊢
                go_wp2_with fail
                refine (refPut HBd.out.ref n f0).mono ?_
                rintro e w3 (⟨hn, rfl, k3⟩ | ⟨j, hj, hjn, rfl, r3, k3⟩)
                · have HNN := Lib.hid (show n < 0 ∨ ((xs.map tokOf).length : Int) ≤ n from by rw [List.length_map]; exact hn)
                  have HP : Hid (PutS w w3 sb rb wr.heap.size (.cells #[.int .i64 4, .int .i64 n, .slice la l.length lc] 68 (0, 0)) F G l2 (xs.map tokOf) (xs.map tokOf) xs) := Lib.hid ⟨⟨_, .inl rfl, HBd.out.kept k3⟩, below_step Hbd.out (Nat.le_refl _) k3 (fun _ h => h.elim), (k3.block _ (heap_lt HCD.out) id).trans HCD.out, HNF.out⟩
                  clear k3 hn
                  have c1 : w3.cell? ⟨wr.heap.size, 1, none⟩ = some (.int .i64 n) := putS_cell HP rfl
                  have c2 : w3.cell? ⟨wr.heap.size, 2, none⟩ = some (.slice la l.length lc) := putS_cell HP rfl
                  go_wp2_with fail
                  go_region_held3 (fun w' => w'.cell? ⟨wr.heap.size, 1, none⟩ = some (.int .i64 n) ∧ w'.cell? ⟨wr.heap.size, 2, none⟩ = some (.slice la l.length lc) ∧ Hid (PutS w w' sb rb wr.heap.size (.cells #[.int .i64 4, .int .i64 n, .slice la l.length lc] 68 (0, 0)) F G l2 (xs.map tokOf) (xs.map tokOf) xs))
                    (first
                      | exact ⟨c1, c2, putS_kept HP ((Kept.refl _ _).drew)⟩
                      | (go_split_ands; refine ⟨?_, ?_, putS_kept ?_ k5⟩ <;> first | assumption | exact k5.cell (by assumption) id)
                      | exact ⟨putS_cell hp6 rfl, putS_cell hp6 rfl, hp6⟩
                      | go_keep)
                    (first
                      | (go_at_call 41; go_split_ands; refine (HFST.out _ (HRD.out.later (Hid.out (by assumption : Hid (PutS w _ sb rb wr.heap.size (.cells #[.int .i64 4, .int .i64 n, .slice la l.length lc] 68 (0, 0)) F G l2 (xs.map tokOf) (xs.map tokOf) xs))).below)).mono ?_; rintro e w' ⟨rfl, rfl⟩)
                      | (go_at_call 50; refine (pair_tok f0 _ HF0.out.1 HF0.out.2).mono ?_; rintro e w5 ⟨rfl, k5⟩)
                      | (go_at_call 51; go_split_ands; refine (putS_bad (by assumption) n (tokOf f0) _ rfl HNN.out).mono ?_; rintro e w6 ⟨rfl, hp6⟩))
                  have Q := Lib.hid (show Below w.heap.size w w6 ∧ TIT w6 w.heap.size sb rb l2 from by
                    obtain ⟨us, hus, h2⟩ := hp6.out.both
                    obtain rfl : us = xs.map tokOf := hus.elim id id
                    exact ⟨hp6.out.below, _, _, _, h2, HXS.out⟩)
                  clear hp6
                  go_wp2
                  go_roundw
                  case rel => exact ⟨k + 1, by omega, by go_num, Q⟩
                  case measure => simp [intOf]; omega
                · have HJJ := Lib.hid (show ((xs.map tokOf).length : Int) = j + 1 + n from by rw [List.length_map]; exact hjn)
                  have HN0 := Lib.hid (show 0 ≤ n from by omega)
                  have HP : Hid (PutS w w3 sb rb wr.heap.size (.cells #[.int .i64 4, .int .i64 n, .slice la l.length lc] 68 (0, 0)) F G l2 (xs.map tokOf) ((xs.map tokOf).set j (tokOf f0)) (xs.set j f0)) := Lib.hid ⟨⟨_, .inl rfl, HBd.out.refStep Hbd.out.size r3 k3 (fun b h => .inl h)⟩, below_step Hbd.out (Nat.le_refl _) k3 HBd.out.newG, (k3.block _ (heap_lt HCD.out) HNG.out).trans HCD.out, HNF.out⟩
                  clear k3 r3 hjn hj
                  have c1 : w3.cell? ⟨wr.heap.size, 1, none⟩ = some (.int .i64 n) := putS_cell HP rfl
                  have c2 : w3.cell? ⟨wr.heap.size, 2, none⟩ = some (.slice la l.length lc) := putS_cell HP rfl
                  go_wp2_with fail
                  go_region_held3 (fun w' => w'.cell? ⟨wr.heap.size, 1, none⟩ = some (.int .i64 n) ∧ w'.cell? ⟨wr.heap.size, 2, none⟩ = some (.slice la l.length lc) ∧ Hid (PutS w w' sb rb wr.heap.size (.cells #[.int .i64 4, .int .i64 n, .slice la l.length lc] 68 (0, 0)) F G l2 (xs.map tokOf) ((xs.map tokOf).set j (tokOf f0)) (xs.set j f0)))
                    (first
                      | exact ⟨c1, c2, putS_kept HP ((Kept.refl _ _).drew)⟩
                      | (go_split_ands; refine ⟨?_, ?_, putS_kept ?_ k5⟩ <;> first | assumption | exact k5.cell (by assumption) id)
                      | exact ⟨putS_cell hp6 rfl, putS_cell hp6 rfl, hp6⟩
                      | go_keep)
                    (first
                      | (go_at_call 41; go_split_ands; refine (HFST.out _ (HRD.out.later (Hid.out (by assumption : Hid (PutS w _ sb rb wr.heap.size (.cells #[.int .i64 4, .int .i64 n, .slice la l.length lc] 68 (0, 0)) F G l2 (xs.map tokOf) ((xs.map tokOf).set j (tokOf f0)) (xs.set j f0)))).below)).mono ?_; rintro e w' ⟨rfl, rfl⟩)
                      | (go_at_call 50; refine (pair_tok f0 _ HF0.out.1 HF0.out.2).mono ?_; rintro e w5 ⟨rfl, k5⟩)
                      | (go_at_call 51; go_split_ands; refine (putS_ok (j := j) (x := tokOf f0) (by assumption) n _ rfl HJJ.out HN0.out).mono ?_; rintro e w6 ⟨rfl, hp6, hq6⟩))
                  have Q := Lib.hid (show Below w.heap.size w w6 ∧ TIT w6 w.heap.size sb rb l2 from ⟨hp6.out.below, _, _, xs.set j f0, by rw [List.map_set]; exact hq6.out, fun z hz => by
                    rcases List.mem_or_eq_of_mem_set hz with h | rfl
                    · exact HXS.out z h
                    · exact HF0.out⟩)
                  clear hp6 hq6
                  go_wp2
                  go_roundw
                  case rel => exact ⟨k + 1, by omega, by go_num, Q⟩
                  case measure => simp [intOf]; omega
              · have b4 : (x == 4) = false := by simp [h4]
                clear h1 h2 h3 h4
                go_wp2_with fail
                refine (refList HBa.out.ref).mono ?_
                rintro e w3 ⟨lv, rfl, ol, k3, nl⟩
                have HB3 := Lib.hid (HBa.out.kept k3)
                have H3 := Lib.hid (below_step Hba.out (Nat.le_refl _) k3 (fun _ h => h.elim))
                have HXL := Lib.hid (show xs.length ≤ 1048576 from by
                  have h := HBa.out.ref
                  obtain ⟨_, _, _, _, _, _, ⟨h1, h2⟩, _⟩ := h
                  omega)
                have OL := Lib.hid ol
                obtain ⟨va, vc, rfl, _, _, _⟩ := ol.shape
                clear k3 ol nl
                go_wp2_with fail
                refine (textsP _ xs w3 OL.out.rd HXS.out (by have := HXL.out; omega)).mono ?_
                rintro e w4 ⟨tv, rfl, ot, k4, n4⟩
                have OT := Lib.hid (show Own w4 56 4 tv (xs.map tokOf).length (cellsOf encT (xs.map tokOf)) from by rw [List.length_map]; exact ot)
                have HB4 := Lib.hid (HB3.out.kept k4)
                have H4 := Lib.hid (below_step H3.out (Nat.le_refl _) k4 (fun _ h => h.elim))
                clear ot k4 n4
                go_wp2_with fail
                refine (stkListT HB4.out.stk).mono ?_
                rintro e w5 ⟨mv, rfl, om, k5, nm⟩
                have HB5 := Lib.hid (HB4.out.kept k5)
                have H5 := Lib.hid (below_step H4.out (Nat.le_refl _) k5 (fun _ h => h.elim))
                have OM := Lib.hid om
                have OT5 := Lib.hid (OT.out.frame k5 (fun _ _ => id))
                clear om k5 nm
                go_wp2_with fail
                refine (sameP _ _ (xs.map tokOf) (xs.map tokOf) w5 OT5.out.rd OM.out.rd).mono ?_
                rintro e w6 ⟨rfl, k6⟩
                rw [decide_eq_true (rfl : xs.map tokOf = xs.map tokOf)]
                have HB6 := Lib.hid (HB5.out.kept k6)
                have H6 := Lib.hid (below_step H5.out (Nat.le_refl _) k6 (fun _ h => h.elim))
                clear k6
                go_wp2_with fail
                refine (stkLenT HB6.out.stk).mono ?_
                rintro e w7 ⟨rfl, rfl⟩
                rw [List.length_map]
                go_wp2_with fail
                refine (stkLimitT HB6.out.stk).mono ?_
                rintro e w7 ⟨rfl, rfl⟩
                have Q := Lib.hid (show Below w.heap.size w w6 ∧ TIT w6 w.heap.size sb rb l2 from ⟨H6.out, _, _, _, HB6.out, HXS.out⟩)
                go_wp2
                go_roundw
                case rel => exact ⟨k + 1, by omega, by go_num, Q⟩
                case measure => simp [intOf]; omega
    · go_wp2_with fail
      go_ret
      exact ⟨rfl, hb⟩

theorem pairs_any (limit : Int) (v : Value) (w : World) (ops : List OpX) (hx : RdOps w v ops) (hin : ∀ o ∈ ops, (∀ x ∈ o.2.2, InR x) ∧ o.2.2.length ≤ 1048576) :
    Calls Try.prog 21 #[.int .i64 limit, v] w fun e w' => e = .returned (.bool true) ∧ Below w.heap.size w w' := by
  by_cases h : 0 ≤ limit ∧ limit ≤ 1048576
  · obtain ⟨l, rfl⟩ := Int.eq_ofNat_of_zero_le h.1
    exact pairs_ok l v w (by omega) ops hx hin
  · exact pairs_bad limit v w h ops hx

theorem stackPairs_walk (limit : Int) (v : Value) (w : World) (ops : List OpX) (hx : RdOps w v ops) (hin : ∀ o ∈ ops, (∀ x ∈ o.2.2, InR x) ∧ o.2.2.length ≤ 1048576) :
    Calls Try.prog 7 #[.int .i64 limit, v] w fun e w' => e = .returned (.bool true) ∧ Below w.heap.size w w' := by
  have HX := Lib.hid hx
  have HIN := Lib.hid hin
  obtain ⟨a, c, rfl, ka1, ka2, ka3⟩ := hx.shape
  clear hx ka3 hin
  go_enter Try.func7, Try.ntmps7
  go_wp2_with fail
  refine (wakes_any w).mono ?_
  rintro e w1 ⟨rfl, hb1⟩
  have B1 := Lib.hid hb1
  clear hb1
  go_wp2_with fail
  refine (pairs_any limit _ w1 ops (HX.out.later B1.out) HIN.out).mono ?_
  rintro e w2 ⟨rfl, hb2⟩
  have B2 := Lib.hid (B1.out.trans (hb2.mono B1.out.size))
  clear hb2
  go_wp2
  go_ret
  exact ⟨rfl, B2.out⟩

set_option maxRecDepth 100000 in
theorem stackPairs_calls : ∀ (H : Type) (enc : TypeId × Value → H) (W : World) (args : Array Value) (ds : List (DataW H)) (ps : List MemPlace),
    (∀ (j : Nat) t v, Try.f7.params[j]? = some t → args[j]? = some v → ∃ base, Value.okWide Try.prog W .any base t v) →
    DataW.TrodAll enc Try.prog W 0 (fun _ => true) true Try.f7.params.toList args.toList ds ps → Rows.uptoSmall H ds = true →
    Calls Try.prog 7 args W fun e W' => e = .returned (.bool true) ∧ Below W.heap.size W W' := by
  intro H enc W args ds ps hval hA hsz
  rw [Try.params7] at hA hval
  obtain ⟨v0, v1, d0, d1, p0, p1, rfl, rfl, _, h0, h1⟩ := trodAll_two hA
  obtain ⟨base0, hok0⟩ := hval 0 _ v0 rfl rfl
  obtain ⟨base1, hok1⟩ := hval 1 _ v1 rfl rfl
  obtain ⟨k, rfl, _, _, _⟩ := open_int Try.underlying3 hok0 h0
  obtain ⟨ops, hx, hin, _⟩ := open_ops_arg hok1 h1
  have h2 : Rows.uptoBulkAll [d0, d1] ≤ 1048576 := of_decide_eq_true hsz
  simp only [Rows.uptoBulkAll] at h2
  exact stackPairs_walk k v1 W ops hx (fun o ho => ⟨(hin o ho).1, by have := (hin o ho).2; omega⟩)

end Go.Proofs.Ythkkpnlgjkdneaa
