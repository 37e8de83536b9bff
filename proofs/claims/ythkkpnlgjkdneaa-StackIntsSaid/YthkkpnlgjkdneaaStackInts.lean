/- The walk of StackInts. -/
import Derived.Test.YthkkpnlgjkdneaaWakes1
import Derived.Test.YthkkpnlgjkdneaaRef01
import Derived.Test.YthkkpnlgjkdneaaArgsOp
import Derived.Test.YthkkpnlgjkdneaaStkBoth
namespace Go.Proofs.Ythkkpnlgjkdneaa
open Go.ChangeShapes Go.WideShapes Go.ChangeAt Go.RowKit
set_option linter.unusedVariables false
set_option linter.unusedSimpArgs false

abbrev BothI := BothS (α := Int) (β := Int) 63 3 1 encI 89 3 1 encI

set_option maxRecDepth 100000 in
set_option maxHeartbeats 2000000 in
theorem ints_bad (limit : Int) (v : Value) (w : World) (hl : ¬ (0 ≤ limit ∧ limit ≤ 1048576)) (ops : List OpX) (hx : RdOps w v ops) :
    Calls Try.prog 19 #[.int .i64 limit, v] w fun e w' => e = .returned (.bool true) ∧ Below w.heap.size w w' := by
  obtain ⟨a, c, rfl, ka1, ka2, ka3⟩ := hx.shape
  have HL := Lib.hid hl
  unfold maxLen at ka2
  clear hx ka3 hl
  go_enter Try.func19, Try.ntmps19
  go_wp2_with fail
  refine (stkNewI limit w).mono ?_
  rintro e w1 (⟨_, rfl, rfl⟩ | ⟨l, h1, h2, _⟩)
  case inr => exact absurd (by omega) HL.out
  go_wp2_with fail
  refine (refNew limit w).mono ?_
  rintro e w1 (⟨_, rfl, rfl⟩ | ⟨l, h1, h2, _⟩)
  case inr => exact absurd (by omega) HL.out
  go_wp2_with fail
  go_loop [9] (fun i => i = .int .i64 0) (fun i => 1)
  case atStart => rfl
  case round =>
    obtain rfl := hrel
    by_cases hlt : 0 < ops.length
    · have hlt' : (0 : Int) < (ops.length : Int) := by omega
      go_wp2
      go_ret
      exact ⟨rfl, Below.refl _ _⟩
    · have hlt' : ¬ (0 : Int) < (ops.length : Int) := by omega
      go_wp2
      go_ret
      exact ⟨rfl, Below.refl _ _⟩

set_option maxRecDepth 100000 in
set_option maxHeartbeats 4000000 in
theorem ints_ok (limit : Nat) (v : Value) (w : World) (hl : limit ≤ 1048576) (ops : List OpX) (hx : RdOps w v ops) :
    Calls Try.prog 19 #[.int .i64 limit, v] w fun e w' => e = .returned (.bool true) ∧ Below w.heap.size w w' := by
  obtain ⟨a, c, rfl, ka1, ka2, ka3⟩ := hx.shape
  have HX := Lib.hid hx
  have KA := Lib.hid ka3
  unfold maxLen at ka2
  clear hx ka3
  go_enter Try.func19, Try.ntmps19
  go_wp2_with fail
  refine (stkNewI limit w).mono ?_
  rintro e w1 (⟨h, _⟩ | ⟨l, h1, _, rfl, s1, k1⟩)
  · exact absurd (by omega) h
  obtain rfl : l = limit := by omega
  obtain ⟨sb, hsb⟩ : ∃ sb, sb = w.heap.size := ⟨_, rfl⟩
  have S1 := Lib.hid s1
  have K1 := Lib.hid k1
  have HSB := Lib.hid hsb
  rw [← hsb] at S1 ⊢
  clear s1 k1 h1 hsb
  go_wp2_with fail
  refine (refNew l w1).mono ?_
  rintro e w2 (⟨h, _⟩ | ⟨l2, h1, _, rfl, s2, k2⟩)
  · exact absurd (by omega) h
  obtain rfl : l2 = l := by omega
  obtain ⟨rb, hrb⟩ : ∃ rb, rb = w1.heap.size := ⟨_, rfl⟩
  have HB0 := Lib.hid (show BothI w2 w.heap.size (.pointer (some ⟨sb, 0, none⟩)) (.pointer (some ⟨w1.heap.size, 0, none⟩)) (fun b => b = sb) (fun b => b = w1.heap.size) l2 [] [] from
    ⟨S1.out.frame k2 (fun _ _ => id), s2, fun b h1 h2 => by have := S1.out.lt h1; omega, fun b h => by have := HSB.out; omega, fun b h => by have := K1.out.size; omega⟩)
  have HL0 := Lib.hid (below_step (below_step (Below.refl _ w) (Nat.le_refl _) K1.out (fun _ h => h.elim)) (Nat.le_refl _) k2 (fun _ h => h.elim))
  rw [← hrb] at HB0 ⊢
  clear s2 k2 h1 S1 K1 HSB hrb
  go_wp2_with fail
  go_loopw [9] (fun i wr => ∃ k : Nat, k ≤ ops.length ∧ i = .int .i64 k ∧ Hid (Below w.heap.size w wr ∧ ∃ (F G : Nat → Prop) (xs : List Int), BothI wr w.heap.size (.pointer (some ⟨sb, 0, none⟩)) (.pointer (some ⟨rb, 0, none⟩)) F G l2 xs xs)) (fun i _ => ops.length - (intOf i).toNat)
  case atStart => exact ⟨0, Nat.zero_le _, rfl, Lib.hid ⟨HL0.out, _, _, [], HB0.out⟩⟩
  case round =>
    obtain ⟨k, hk, rfl, hH⟩ := hrel
    obtain ⟨hb, F, G, xs, hBo⟩ := hH.out
    by_cases hlt : k < ops.length
    · cases a with
      | none => exact absurd (KA.out rfl).1 (by omega)
      | some ad =>
        obtain ⟨cx0, cn0, xv, cv0, hrd⟩ := HX.out.cells hlt
        have cx := (hb.cell (World.block_lt_of_cell? _ _ cx0)).trans cx0
        have cn := (hb.cell (World.block_lt_of_cell? _ _ cn0)).trans cn0
        have cv := (hb.cell (World.block_lt_of_cell? _ _ cv0)).trans cv0
        clear cx0 cn0 cv0
        generalize ops[k].1 = x at cx
        generalize ops[k].2.1 = n at cn
        generalize ops[k].2.2 = l at hrd
        obtain ⟨_, la, lc, rfl, l1, l2', _, _⟩ := id hrd
        obtain ⟨o, ho⟩ : ∃ o, o = Obj.cells #[.int .i64 x, .int .i64 n, .slice la l.length lc] 68 := ⟨_, rfl⟩
        have ha := (Kept.refl (fun _ => False) wr).alloc o
        have hba : Below w.heap.size w (wr.alloc o) := hb.alloc hb.size o
        have hco : (wr.alloc o).heap[wr.heap.size]? = some o := by show (wr.heap.push _)[wr.heap.size]? = _; simp
        have hF : ¬ F wr.heap.size := fun h => by have := hBo.stk.lt h; omega
        have hG : ¬ G wr.heap.size := fun h => by have := hBo.ref.lt h; omega
        have HBa := Lib.hid (hBo.kept ha)
        have Hba := Lib.hid hba
        have HCO := Lib.hid hco
        have HNF := Lib.hid hF
        have HNG := Lib.hid hG
        have HRD := Lib.hid hrd
        rw [ho] at HBa Hba HCO
        clear hBo hb hH ha hba hco hF hG hrd ho o
        by_cases h1 : x = 1
        · subst h1
          go_wp2_with fail
          refine (refPush HBa.out.ref _ l (HRD.out.later Hba.out)).mono ?_
          rintro e w3 (⟨hgt, rfl, k3⟩ | ⟨hle, rfl, G', r3, k3, g3⟩)
          · have co : w3.cell? ⟨wr.heap.size, 2, none⟩ = some (.slice la l.length lc) := k3.cell (cell_of HCO.out rfl) id
            have HB3 := Lib.hid (HBa.out.kept k3)
            have H3 := Lib.hid (below_step Hba.out (Nat.le_refl _) k3 (fun _ h => h.elim))
            have HGT := Lib.hid hgt
            clear k3 hgt
            go_wp2_with fail
            refine (stkPushI HB3.out.stk _ l (HRD.out.later H3.out)).mono ?_
            rintro e w4 (⟨_, rfl, k4⟩ | ⟨hle, _⟩)
            case inr => exact absurd HGT.out (by omega)
            have Q := Lib.hid (show Below w.heap.size w w4 ∧ ∃ (F G : Nat → Prop) (xs : List Int), BothI w4 w.heap.size (.pointer (some ⟨sb, 0, none⟩)) (.pointer (some ⟨rb, 0, none⟩)) F G l2 xs xs from
              ⟨below_step H3.out (Nat.le_refl _) k4 (fun _ h => h.elim), _, _, _, HB3.out.kept k4⟩)
            clear k4
            go_wp2
            go_roundw
            case rel => exact ⟨k + 1, by omega, by go_num, Q⟩
            case measure => simp [intOf]; omega
          · have co : w3.cell? ⟨wr.heap.size, 2, none⟩ = some (.slice la l.length lc) := k3.cell (cell_of HCO.out rfl) HNG.out
            have HB3 := Lib.hid (HBa.out.refStep Hba.out.size r3 k3 g3)
            have H3 := Lib.hid (below_step Hba.out (Nat.le_refl _) k3 HBa.out.newG)
            have HLE := Lib.hid hle
            clear k3 hle r3 g3
            go_wp2_with fail
            refine (stkPushI HB3.out.stk _ l (HRD.out.later H3.out)).mono ?_
            rintro e w4 (⟨hgt, _⟩ | ⟨_, rfl, F', s4, k4, f4⟩)
            · exact absurd HLE.out (by omega)
            have Q := Lib.hid (show Below w.heap.size w w4 ∧ ∃ (F G : Nat → Prop) (xs : List Int), BothI w4 w.heap.size (.pointer (some ⟨sb, 0, none⟩)) (.pointer (some ⟨rb, 0, none⟩)) F G l2 xs xs from
              ⟨below_step H3.out (Nat.le_refl _) k4 HB3.out.newF, _, _, _, HB3.out.stkStep H3.out.size s4 k4 f4⟩)
            clear k4 s4 f4
            go_wp2
            go_roundw
            case rel => exact ⟨k + 1, by omega, by go_num, Q⟩
            case measure => simp [intOf]; omega
        · have b1 : (x == 1) = false := by simp [h1]
          by_cases h2 : x = 2
          · subst h2
            clear h1
            go_wp2_with fail
            refine (refPop HBa.out.ref n).mono ?_
            rintro e w3 (⟨hn, rfl, rfl⟩ | ⟨hn, rfl, rfl⟩ | ⟨j, lv, G', hj, hjl, rfl, ol, nl, r3, k3, g3⟩)
            · have HN := Lib.hid hn
              clear hn
              go_wp2_with fail
              refine (stkPopI HBa.out.stk n).mono ?_
              rintro e w3 (⟨_, rfl, rfl⟩ | ⟨hn, _⟩ | ⟨j, lv, hj, hjl, _⟩)
              case inr.inl => exact absurd HN.out (by omega)
              case inr.inr => exact absurd HN.out (by omega)
              go_wp2_with fail
              refine (sameI _ _ [] [] _ (Own.nil _ 3 1).rd (Own.nil _ 3 1).rd).mono ?_
              rintro e w4 ⟨rfl, k4⟩
              rw [decide_eq_true (rfl : ([] : List Int) = [])]
              have Q := Lib.hid (show Below w.heap.size w w4 ∧ ∃ (F G : Nat → Prop) (xs : List Int), BothI w4 w.heap.size (.pointer (some ⟨sb, 0, none⟩)) (.pointer (some ⟨rb, 0, none⟩)) F G l2 xs xs from
                ⟨below_step Hba.out (Nat.le_refl _) k4 (fun _ h => h.elim), _, _, _, HBa.out.kept k4⟩)
              clear k4
              go_wp2
              go_roundw
              case rel => exact ⟨k + 1, by omega, by go_num, Q⟩
              case measure => simp [intOf]; omega
            · have HN := Lib.hid hn
              clear hn
              go_wp2_with fail
              refine (stkPopI HBa.out.stk n).mono ?_
              rintro e w3 (⟨hn, _⟩ | ⟨_, rfl, rfl⟩ | ⟨j, lv, hj, hjl, _⟩)
              case inl => exact absurd HN.out (by omega)
              case inr.inr => exact absurd HN.out (by omega)
              go_wp2_with fail
              refine (sameI _ _ [] [] _ (Own.nil _ 3 1).rd (Own.nil _ 3 1).rd).mono ?_
              rintro e w4 ⟨rfl, k4⟩
              rw [decide_eq_true (rfl : ([] : List Int) = [])]
              have Q := Lib.hid (show Below w.heap.size w w4 ∧ ∃ (F G : Nat → Prop) (xs : List Int), BothI w4 w.heap.size (.pointer (some ⟨sb, 0, none⟩)) (.pointer (some ⟨rb, 0, none⟩)) F G l2 xs xs from
                ⟨below_step Hba.out (Nat.le_refl _) k4 (fun _ h => h.elim), _, _, _, HBa.out.kept k4⟩)
              clear k4
              go_wp2
              go_roundw
              case rel => exact ⟨k + 1, by omega, by go_num, Q⟩
              case measure => simp [intOf]; omega
            · have co : w3.cell? ⟨wr.heap.size, 1, none⟩ = some (.int .i64 n) := k3.cell (cell_of HCO.out rfl) HNG.out
              have HB3 := Lib.hid (HBa.out.refStep Hba.out.size r3 k3 g3)
              have H3 := Lib.hid (below_step Hba.out (Nat.le_refl _) k3 HBa.out.newG)
              have HJ := Lib.hid hj
              have HJL := Lib.hid hjl
              rw [show xs.length - j = (xs.drop j).length by simp] at ol
              have OL := Lib.hid ol
              have NL := Lib.hid (show ∀ b, lv.ownBlock = some b → ¬ F b from fun b hb hf => by have := (nl b hb).1; have := HBa.out.stk.lt hf; omega)
              clear k3 r3 g3 hj hjl ol nl
              go_wp2_with fail
              refine (stkPopI HB3.out.stk n).mono ?_
              rintro e w4 (⟨hn, _⟩ | ⟨hn, _⟩ | ⟨j', mv, hj', _, rfl, om, nm, s4, k4⟩)
              · exact absurd HJ.out (by have := HJL.out; omega)
              · exact absurd HJ.out (by omega)
              obtain rfl : j' = j := by have := HJ.out; omega
              rw [show xs.length - j' = (xs.drop j').length by simp] at om
              have HB4 := Lib.hid (HB3.out.stkStep H3.out.size s4 k4 (fun b h => .inl h))
              have H4 := Lib.hid (below_step H3.out (Nat.le_refl _) k4 HB3.out.newF)
              have OM := Lib.hid om
              have OL4 := Lib.hid (OL.out.frame k4 NL.out)
              clear om nm s4 k4 hj'
              go_wp2_with fail
              refine (sameI _ _ (xs.drop j') (xs.drop j') w4 OL4.out.rd OM.out.rd).mono ?_
              rintro e w5 ⟨rfl, k5⟩
              rw [decide_eq_true (rfl : xs.drop j' = xs.drop j')]
              have Q := Lib.hid (show Below w.heap.size w w5 ∧ ∃ (F G : Nat → Prop) (xs : List Int), BothI w5 w.heap.size (.pointer (some ⟨sb, 0, none⟩)) (.pointer (some ⟨rb, 0, none⟩)) F G l2 xs xs from
                ⟨below_step H4.out (Nat.le_refl _) k5 (fun _ h => h.elim), _, _, _, HB4.out.kept k5⟩)
              clear k5
              go_wp2
              go_roundw
              case rel => exact ⟨k + 1, by omega, by go_num, Q⟩
              case measure => simp [intOf]; omega
          · have b2 : (x == 2) = false := by simp [h2]
            by_cases h3 : x = 3
            · subst h3
              clear h1 h2
              go_wp2_with fail
              refine (refPeek HBa.out.ref n).mono ?_
              rintro e w3 (⟨hn, rfl, k3⟩ | ⟨j, hj, hjn, rfl, k3⟩)
              · have co : w3.cell? ⟨wr.heap.size, 1, none⟩ = some (.int .i64 n) := k3.cell (cell_of HCO.out rfl) id
                have HB3 := Lib.hid (HBa.out.kept k3)
                have H3 := Lib.hid (below_step Hba.out (Nat.le_refl _) k3 (fun _ h => h.elim))
                have HN := Lib.hid hn
                clear k3 hn
                go_wp2_with fail
                refine (stkPeekI HB3.out.stk n).mono ?_
                rintro e w4 (⟨_, rfl, rfl⟩ | ⟨j, hj, hjn, _⟩)
                case inr => exact absurd HN.out (by omega)
                have Q := Lib.hid (show Below w.heap.size w w3 ∧ ∃ (F G : Nat → Prop) (xs : List Int), BothI w3 w.heap.size (.pointer (some ⟨sb, 0, none⟩)) (.pointer (some ⟨rb, 0, none⟩)) F G l2 xs xs from ⟨H3.out, _, _, _, HB3.out⟩)
                go_wp2
                go_roundw
                case rel => exact ⟨k + 1, by omega, by go_num, Q⟩
                case measure => simp [intOf]; omega
              · have co : w3.cell? ⟨wr.heap.size, 1, none⟩ = some (.int .i64 n) := k3.cell (cell_of HCO.out rfl) id
                have HB3 := Lib.hid (HBa.out.kept k3)
                have H3 := Lib.hid (below_step Hba.out (Nat.le_refl _) k3 (fun _ h => h.elim))
                have HJ := Lib.hid hjn
                clear k3 hjn
                go_wp2_with fail
                refine (stkPeekI HB3.out.stk n).mono ?_
                rintro e w4 (⟨hn, _⟩ | ⟨j', hj', hjn', rfl, rfl⟩)
                · exact absurd HJ.out (by omega)
                obtain rfl : j' = j := by have := HJ.out; omega
                unfold encI
                generalize xs[j'] = z
                have Q := Lib.hid (show Below w.heap.size w w3 ∧ ∃ (F G : Nat → Prop) (xs : List Int), BothI w3 w.heap.size (.pointer (some ⟨sb, 0, none⟩)) (.pointer (some ⟨rb, 0, none⟩)) F G l2 xs xs from ⟨H3.out, _, _, _, HB3.out⟩)
                clear hj hj' hjn'
                go_wp2
                go_roundw
                case rel => exact ⟨k + 1, by omega, by go_num, Q⟩
                case measure => simp [intOf]; omega
            · have b3 : (x == 3) = false := by simp [h3]
              by_cases h4 : x = 4
              · subst h4
                clear h1 h2 h3
                have c1 : (wr.alloc (.cells #[.int .i64 4, .int .i64 n, .slice la l.length lc] 68)).cell? ⟨wr.heap.size, 1, none⟩ = some (.int .i64 n) := cell_of HCO.out rfl
                have c2 : (wr.alloc (.cells #[.int .i64 4, .int .i64 n, .slice la l.length lc] 68)).cell? ⟨wr.heap.size, 2, none⟩ = some (.slice la l.length lc) := cell_of HCO.out rfl
                go_wp2_with fail
                have HR0 := Lib.hid (HRD.out.later Hba.out)
                have hfst := fun (W : World) (h : Rd W 1 (.slice la l.length lc) l.length (cellsOf encI l)) => first_any _ l W h
                generalize l.headD 0 = f0 at hfst
                have HFST := Lib.hid hfst
                clear hfst
                generalize wr.alloc (.cells #[.int .i64 4, .int .i64 n, .slice la l.length lc] 68) = wa at HBa Hba HCO c1 c2 HR0 ⊢
                refine wp_region_still_tail 6 (by kernel_rfl) (by kernel_rfl) ?_
                simp only [List.take_succ_cons, List.take_zero, List.drop_succ_cons, List.drop_zero]
                repeat still_step
                still_call (HFST.out _ HR0.out.drew)
                repeat still_step
                refine wpStill_nil ?_
                change wpList _ _ _ _ _ wa.drew
                have HBd := Lib.hid (show BothI wa.drew w.heap.size (.pointer (some ⟨sb, 0, none⟩)) (.pointer (some ⟨rb, 0, none⟩)) F G l2 xs xs from HBa.out.kept ((Kept.refl _ wa).drew))
                have Hbd := Lib.hid (show Below w.heap.size w wa.drew from Hba.out.drew)
                have HCD := Lib.hid (show wa.drew.heap[wr.heap.size]? = some (.cells #[.int .i64 4, .int .i64 n, .slice la l.length lc] 68 (0, 0)) from HCO.out)
                clear HBa Hba HCO c1 c2 HR0
                generalize wa.drew = wd at HBd Hbd HCD ⊢
                go_wp2_with fail
                refine (refPut HBd.out.ref n f0).mono ?_
                rintro e w3 (⟨hn, rfl, k3⟩ | ⟨j, hj, hjn, rfl, r3, k3⟩)
                · have c1 : w3.cell? ⟨wr.heap.size, 1, none⟩ = some (.int .i64 n) := k3.cell (cell_of HCD.out rfl) id
                  have c2 : w3.cell? ⟨wr.heap.size, 2, none⟩ = some (.slice la l.length lc) := k3.cell (cell_of HCD.out rfl) id
                  have HB3 := Lib.hid (HBd.out.kept k3)
                  have H3 := Lib.hid (below_step Hbd.out (Nat.le_refl _) k3 (fun _ h => h.elim))
                  have HR3 := Lib.hid (HRD.out.later H3.out)
                  have HN := Lib.hid hn
                  clear k3 hn
                  go_wp2_with fail
                  refine wp_region_still_tail 6 (by kernel_rfl) (by kernel_rfl) ?_
                  simp only [List.take_succ_cons, List.take_zero, List.drop_succ_cons, List.drop_zero]
                  repeat still_step
                  still_call (HFST.out _ HR3.out.drew)
                  repeat still_step
                  refine wpStill_nil ?_
                  change wpList _ _ _ _ _ w3.drew
                  have HBe := Lib.hid (show BothI w3.drew w.heap.size (.pointer (some ⟨sb, 0, none⟩)) (.pointer (some ⟨rb, 0, none⟩)) F G l2 xs xs from HB3.out.kept ((Kept.refl _ w3).drew))
                  have Hbe := Lib.hid (show Below w.heap.size w w3.drew from H3.out.drew)
                  clear HB3 H3 HR3 c1 c2
                  generalize w3.drew = we at HBe Hbe ⊢
                  go_wp2_with fail
                  refine (stkPutI HBe.out.stk n f0).mono ?_
                  rintro e w4 (⟨_, rfl, rfl⟩ | ⟨j, hj, hjn, _⟩)
                  case inr => exact absurd HN.out (by omega)
                  have Q := Lib.hid (show Below w.heap.size w we ∧ ∃ (F G : Nat → Prop) (xs : List Int), BothI we w.heap.size (.pointer (some ⟨sb, 0, none⟩)) (.pointer (some ⟨rb, 0, none⟩)) F G l2 xs xs from ⟨Hbe.out, _, _, _, HBe.out⟩)
                  go_wp2
                  go_roundw
                  case rel => exact ⟨k + 1, by omega, by go_num, Q⟩
                  case measure => simp [intOf]; omega
                · have c1 : w3.cell? ⟨wr.heap.size, 1, none⟩ = some (.int .i64 n) := k3.cell (cell_of HCD.out rfl) HNG.out
                  have c2 : w3.cell? ⟨wr.heap.size, 2, none⟩ = some (.slice la l.length lc) := k3.cell (cell_of HCD.out rfl) HNG.out
                  have HB3 := Lib.hid (HBd.out.refStep Hbd.out.size r3 k3 (fun b h => .inl h))
                  have H3 := Lib.hid (below_step Hbd.out (Nat.le_refl _) k3 HBd.out.newG)
                  have HR3 := Lib.hid (HRD.out.later H3.out)
                  have HJ := Lib.hid hjn
                  clear k3 r3 hjn
                  go_wp2_with fail
                  refine wp_region_still_tail 6 (by kernel_rfl) (by kernel_rfl) ?_
                  simp only [List.take_succ_cons, List.take_zero, List.drop_succ_cons, List.drop_zero]
                  repeat still_step
                  still_call (HFST.out _ HR3.out.drew)
                  repeat still_step
                  refine wpStill_nil ?_
                  change wpList _ _ _ _ _ w3.drew
                  have HBe := Lib.hid (show BothI w3.drew w.heap.size (.pointer (some ⟨sb, 0, none⟩)) (.pointer (some ⟨rb, 0, none⟩)) F G l2 xs (xs.set j f0) from HB3.out.kept ((Kept.refl _ w3).drew))
                  have Hbe := Lib.hid (show Below w.heap.size w w3.drew from H3.out.drew)
                  clear HB3 H3 HR3 c1 c2
                  generalize w3.drew = we at HBe Hbe ⊢
                  go_wp2_with fail
                  refine (stkPutI HBe.out.stk n f0).mono ?_
                  rintro e w4 (⟨hn, _⟩ | ⟨j', hj', hjn', rfl, s4, k4⟩)
                  · exact absurd HJ.out (by omega)
                  obtain rfl : j' = j := by have := HJ.out; omega
                  have Q := Lib.hid (show Below w.heap.size w w4 ∧ ∃ (F G : Nat → Prop) (xs : List Int), BothI w4 w.heap.size (.pointer (some ⟨sb, 0, none⟩)) (.pointer (some ⟨rb, 0, none⟩)) F G l2 xs xs from
                    ⟨below_step Hbe.out (Nat.le_refl _) k4 HBe.out.newF, _, _, _, HBe.out.stkStep Hbe.out.size s4 k4 (fun b h => .inl h)⟩)
                  clear s4 k4 hjn'
                  go_wp2
                  go_roundw
                  case rel => exact ⟨k + 1, by omega, by go_num, Q⟩
                  case measure => simp [intOf]; omega
              · have b4 : (x == 4) = false := by simp [h4]
                clear h1 h2 h3 h4
                go_wp2_with fail
                refine (refList HBa.out.ref).mono ?_
                rintro e w3 ⟨lv, rfl, ol, k3, nl⟩
                have HB3 := Lib.hid (HBa.out.kept k3)
                have H3 := Lib.hid (below_step Hba.out (Nat.le_refl _) k3 (fun _ h => h.elim))
                have OL := Lib.hid ol
                obtain ⟨va, vc, rfl, _, _, _⟩ := ol.shape
                clear k3 ol nl
                go_wp2_with fail
                refine (stkListI HB3.out.stk).mono ?_
                rintro e w4 ⟨mv, rfl, om, k4, nm⟩
                have HB4 := Lib.hid (HB3.out.kept k4)
                have H4 := Lib.hid (below_step H3.out (Nat.le_refl _) k4 (fun _ h => h.elim))
                have OM := Lib.hid om
                have OL4 := Lib.hid (OL.out.frame k4 (fun _ _ => id))
                clear om k4 nm
                go_wp2_with fail
                refine (sameI _ _ xs xs w4 OL4.out.rd OM.out.rd).mono ?_
                rintro e w5 ⟨rfl, k5⟩
                rw [decide_eq_true (rfl : xs = xs)]
                have HB5 := Lib.hid (HB4.out.kept k5)
                have H5 := Lib.hid (below_step H4.out (Nat.le_refl _) k5 (fun _ h => h.elim))
                clear k5
                go_wp2_with fail
                refine (stkLenI HB5.out.stk).mono ?_
                rintro e w6 ⟨rfl, rfl⟩
                go_wp2_with fail
                refine (stkLimitI HB5.out.stk).mono ?_
                rintro e w6 ⟨rfl, rfl⟩
                have Q := Lib.hid (show Below w.heap.size w w5 ∧ ∃ (F G : Nat → Prop) (xs : List Int), BothI w5 w.heap.size (.pointer (some ⟨sb, 0, none⟩)) (.pointer (some ⟨rb, 0, none⟩)) F G l2 xs xs from ⟨H5.out, _, _, _, HB5.out⟩)
                go_wp2
                go_roundw
                case rel => exact ⟨k + 1, by omega, by go_num, Q⟩
                case measure => simp [intOf]; omega
    · go_wp2_with fail
      go_ret
      exact ⟨rfl, hb⟩

theorem ints_any (limit : Int) (v : Value) (w : World) (ops : List OpX) (hx : RdOps w v ops) :
    Calls Try.prog 19 #[.int .i64 limit, v] w fun e w' => e = .returned (.bool true) ∧ Below w.heap.size w w' := by
  by_cases h : 0 ≤ limit ∧ limit ≤ 1048576
  · obtain ⟨l, rfl⟩ := Int.eq_ofNat_of_zero_le h.1
    exact ints_ok l v w (by omega) ops hx
  · exact ints_bad limit v w h ops hx

theorem stackInts_walk (limit : Int) (v : Value) (w : World) (ops : List OpX) (hx : RdOps w v ops) :
    Calls Try.prog 5 #[.int .i64 limit, v] w fun e w' => e = .returned (.bool true) ∧ Below w.heap.size w w' := by
  have HX := Lib.hid hx
  obtain ⟨a, c, rfl, ka1, ka2, ka3⟩ := hx.shape
  clear hx ka3
  go_enter Try.func5, Try.ntmps5
  go_wp2_with fail
  refine (wakes_any w).mono ?_
  rintro e w1 ⟨rfl, hb1⟩
  have B1 := Lib.hid hb1
  clear hb1
  go_wp2_with fail
  refine (ints_any limit _ w1 ops (HX.out.later B1.out)).mono ?_
  rintro e w2 ⟨rfl, hb2⟩
  have B2 := Lib.hid (B1.out.trans (hb2.mono B1.out.size))
  clear hb2
  go_wp2
  go_ret
  exact ⟨rfl, B2.out⟩

set_option maxRecDepth 100000 in
theorem stackInts_calls : LawCalls Try.prog 5 Try.f5 := by
  intro H enc W args ds ps hval hA hsz
  rw [Try.params5] at hA hval hsz
  obtain ⟨v0, v1, d0, d1, p0, p1, rfl, rfl, _, h0, h1⟩ := trodAll_two hA
  obtain ⟨base0, hok0⟩ := hval 0 _ v0 rfl rfl
  obtain ⟨base1, hok1⟩ := hval 1 _ v1 rfl rfl
  obtain ⟨k, rfl, _, _, _⟩ := open_int Try.underlying3 hok0 h0
  obtain ⟨ops, hx, _, _⟩ := open_ops_arg hok1 h1
  exact stackInts_walk k v1 W ops hx

end Go.Proofs.Ythkkpnlgjkdneaa
