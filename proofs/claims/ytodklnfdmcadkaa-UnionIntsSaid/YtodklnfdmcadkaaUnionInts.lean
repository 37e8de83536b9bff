/- The walk of UnionInts. -/
import Derived.Test.YtodklnfdmcadkaaArgsR
import Derived.Test.YtodklnfdmcadkaaOpF6
import Derived.Test.YtodklnfdmcadkaaWakes6
import Derived.Test.YtodklnfdmcadkaaUniBI
namespace Go.Proofs.Ytodklnfdmcadkaa
open Go.ChangeShapes Go.WideShapes Go.ChangeAt Go.RowKit
set_option linter.unusedVariables false
set_option linter.unusedSimpArgs false

/-- What holds behind k calls. -/
def SU (w : World) (B : Nat) (p r : Value) (k : Nat) : Prop :=
  ∃ (ob : Nat) (ρ : Nat → Nat) (vr : List Int), UBI w B ob p r ρ vr ρ vr ∧ vr.length ≤ k

/-- The call's cells are there still. -/
theorem op_kept {w w' : World} {B ob : Nat} {x y z t : Int} (h : w.heap[ob]? = some (.cells #[.int .i64 x, .int .i64 y, .int .i64 z, .int .i64 t] 45 (0, 0))) (k : Kept (fun b => B ≤ b ∧ b ≠ ob) w w') :
    w'.heap[ob]? = some (.cells #[.int .i64 x, .int .i64 y, .int .i64 z, .int .i64 t] 45 (0, 0)) :=
  (k.block ob (heap_lt h) (fun h => h.2 rfl)).trans h

set_option maxRecDepth 100000 in
set_option maxHeartbeats 4000000 in
theorem unionInts_walk (v : Value) (xs : List (List Int)) (w : World) (hx : RdRows w 4 v xs) (hreach : xs.length * 32 ≤ 140737488351232) :
    Calls Try.prog 5 #[v] w fun e w' => e = .returned (.bool true) ∧ Below w.heap.size w w' := by
  obtain ⟨a, c, rfl, ka1, ka2, ka3⟩ := hx.shape
  have HX := Lib.hid hx
  have KA := Lib.hid ka3
  clear hx ka3
  unfold maxLen at ka2
  go_enter Try.func5, Try.ntmps5
  go_wp2_with fail
  refine (wakes_any w).mono ?_
  rintro e w1 ⟨rfl, hb1⟩
  go_wp2_with fail
  refine (uniNewI w1).mono ?_
  rintro e w2 ⟨rfl, hI0, hk0⟩
  obtain ⟨sb, hsb⟩ : ∃ sb, sb = w1.heap.size := ⟨_, rfl⟩
  obtain ⟨rb, hrb⟩ : ∃ rb, rb = w2.heap.size := ⟨_, rfl⟩
  have hb2 := below_step hb1 (Nat.le_refl _) hk0 (fun _ h => h.elim)
  have HS0 := Lib.hid (show SU (w2.alloc (.cells #[.slice none 0 0, .slice none 0 0] 29)) w.heap.size (.pointer (some ⟨w1.heap.size, 0, none⟩)) (.pointer (some ⟨w2.heap.size, 0, none⟩)) 0 from
    ⟨w2.heap.size + 1, id, [], ⟨fun x => x = w1.heap.size, fun x => x = w2.heap.size, hI0.frame ((Kept.refl (fun _ => False) w2).alloc _) (fun _ _ => id), RUn.made w2, fun x h1 h2 => by have := hI0.lt h1; omega, fun x h => ⟨by have := hb1.size; omega, by have := hI0.lt h; omega⟩, fun x h => ⟨by have := hb2.size; omega, by omega⟩⟩, Nat.le_refl _⟩)
  have HL0 := Lib.hid (hb2.alloc hb2.size (.cells #[.slice none 0 0, .slice none 0 0] 29))
  rw [← hsb] at HS0 ⊢
  clear hI0 hk0 hb1 hb2 hsb
  go_wp2_with fail
  rw [← hrb] at HS0 ⊢
  clear hrb
  go_loopw [5] (fun i wr => ∃ k : Nat, k ≤ xs.length ∧ i = .int .i64 k ∧ Hid (Below w.heap.size w wr ∧ SU wr w.heap.size (.pointer (some ⟨sb, 0, none⟩)) (.pointer (some ⟨rb, 0, none⟩)) k)) (fun i _ => xs.length - (intOf i).toNat)
  case atStart => exact ⟨0, Nat.zero_le _, rfl, Lib.hid ⟨HL0.out, HS0.out⟩⟩
  case round =>
    obtain ⟨k, hk, rfl, hH⟩ := hrel
    obtain ⟨hb, ob0, ρ, vr, hBS, hLl⟩ := hH.out
    by_cases hlt : k < xs.length
    · cases a with
      | none => exact absurd (KA.out rfl).1 (by omega)
      | some ad =>
        have cx := (HX.out.later hb).cell hlt (j := 0) (by omega)
        have cy := (HX.out.later hb).cell' hlt (j := 1) (by omega) (by omega)
        have cz := (HX.out.later hb).cell' hlt (j := 2) (by omega) (by omega)
        have ct := (HX.out.later hb).cell' hlt (j := 3) (by omega) (by omega)
        simp only [Nat.add_zero] at cx
        generalize xs[k].getD 0 0 = x at cx
        generalize xs[k].getD 1 0 = y at cy
        generalize xs[k].getD 2 0 = z at cz
        generalize xs[k].getD 3 0 = t at ct
        obtain ⟨o, ho⟩ : ∃ o, o = Obj.cells #[.int .i64 x, .int .i64 y, .int .i64 z, .int .i64 t] 45 := ⟨_, rfl⟩
        have hba : Below w.heap.size w (wr.alloc o) := hb.alloc hb.size o
        have hco : (wr.alloc o).heap[wr.heap.size]? = some o := by show (wr.heap.push _)[wr.heap.size]? = _; simp
        have HBS := Lib.hid (hBS.out (o := wr.heap.size) ((Kept.refl (fun _ => False) wr).alloc o) (Nat.le_refl _))
        have Hba := Lib.hid hba
        have HCO := Lib.hid hco
        rw [ho] at HBS Hba HCO
        have HT8 : Hid (Fits (vr.length + 1) 8) := Lib.hid (fits_of (by omega) (by decide))
        have HT24 : Hid (Fits (vr.length + 1) 24) := Lib.hid (fits_of (by omega) (by decide))
        have HL8 : Hid (vr.length * 8 ≤ 140737488355328) := Lib.hid (by omega)
        have HLL := Lib.hid hLl
        clear hBS hb hH hba hco ho o hLl
        by_cases h1 : x = 1
        · subst h1
          go_wp2_with fail
          refine (ubRefAddI HBS.out Hba.out.size (by simp) t HT8.out).mono ?_
          rintro e w3 ⟨rfl, h3, k3⟩
          have H3 := Lib.hid h3
          have B3 := Lib.hid (below_step Hba.out (Nat.le_refl _) k3 (fun _ h => h.1))
          have C3 := Lib.hid (op_kept HCO.out k3)
          have c3 : w3.cell? ⟨wr.heap.size, 3, none⟩ = some (.int .i64 t) := cell_of C3.out rfl
          clear h3 k3
          go_wp2_with fail
          refine (ubAddI H3.out B3.out.size (heap_lt C3.out) t HT24.out).mono ?_
          rintro e w4 ⟨rfl, h4, k4⟩
          have Q := Lib.hid (show Below w.heap.size w w4 ∧ SU w4 w.heap.size (.pointer (some ⟨sb, 0, none⟩)) (.pointer (some ⟨rb, 0, none⟩)) (k + 1) from
            ⟨below_step B3.out (Nat.le_refl _) k4 (fun _ h => h.1), _, _, _, h4, by have := HLL.out; simp; omega⟩)
          clear h4 k4
          go_wp2
          go_roundw
          case rel => exact ⟨k + 1, by omega, by go_num, Q⟩
          case measure => simp [intOf]; omega
        · have b1 : (x == 1) = false := by simp [h1]
          by_cases h2 : x = 2
          · subst h2
            clear h1
            go_wp2_with fail
            refine (ubRefFindI HBS.out y).mono ?_
            rintro e w3 (⟨hbad, rfl, rfl⟩ | ⟨j, rfl, hj, rfl, rfl⟩)
            · have HBAD := Lib.hid hbad
              clear hbad
              go_wp2_with fail
              refine (ubFindI HBS.out Hba.out.size (by simp) y).mono ?_
              rintro e w4 (⟨_, rfl, rfl⟩ | ⟨j, rfl, hj, _⟩)
              case inr => exact absurd HBAD.out (by omega)
              have Q := Lib.hid (show Below w.heap.size w (wr.alloc (.cells #[.int .i64 2, .int .i64 y, .int .i64 z, .int .i64 t] 45)) ∧ SU (wr.alloc (.cells #[.int .i64 2, .int .i64 y, .int .i64 z, .int .i64 t] 45)) w.heap.size (.pointer (some ⟨sb, 0, none⟩)) (.pointer (some ⟨rb, 0, none⟩)) (k + 1) from
                ⟨Hba.out, _, _, _, HBS.out, by have := HLL.out; omega⟩)
              go_wp2
              go_roundw
              case rel => exact ⟨k + 1, by omega, by go_num, Q⟩
              case measure => simp [intOf]; omega
            · have HJ := Lib.hid hj
              clear hj
              go_wp2_with fail
              refine (ubFindI HBS.out Hba.out.size (by simp) j).mono ?_
              rintro e w4 (⟨h, _⟩ | ⟨j2, hj2, _, rfl, h4, k4⟩)
              · exact absurd HJ.out (by omega)
              obtain rfl : j2 = j := by omega
              have Q := Lib.hid (show Below w.heap.size w w4 ∧ SU w4 w.heap.size (.pointer (some ⟨sb, 0, none⟩)) (.pointer (some ⟨rb, 0, none⟩)) (k + 1) from
                ⟨below_step Hba.out (Nat.le_refl _) k4 (fun _ h => h.1), _, _, _, h4, by have := HLL.out; omega⟩)
              clear h4 k4 hj2
              go_wp2
              go_roundw
              case rel => exact ⟨k + 1, by omega, by go_num, Q⟩
              case measure => simp [intOf]; omega
          · have b2 : (x == 2) = false := by simp [h2]
            by_cases h3 : x = 3
            · subst h3
              clear h2
              go_wp2_with fail
              refine (ubRefJoinI HBS.out Hba.out.size (by simp) y z).mono ?_
              rintro e w3 (⟨hbad, rfl, rfl⟩ | ⟨i1, j1, rfl, rfl, hi, hj, rfl, h3, k3⟩)
              · have HBAD := Lib.hid hbad
                clear hbad
                go_wp2_with fail
                refine (ubJoinI HBS.out Hba.out.size (by simp) y z).mono ?_
                rintro e w4 (⟨_, rfl, h4, k4⟩ | ⟨i2, j2, rfl, rfl, hi, hj, _⟩)
                case inr => exact absurd HBAD.out (by omega)
                have Q := Lib.hid (show Below w.heap.size w w4 ∧ SU w4 w.heap.size (.pointer (some ⟨sb, 0, none⟩)) (.pointer (some ⟨rb, 0, none⟩)) (k + 1) from
                  ⟨below_step Hba.out (Nat.le_refl _) k4 (fun _ h => h.1), _, _, _, h4, by have := HLL.out; omega⟩)
                clear h4 k4
                go_wp2
                go_roundw
                case rel => exact ⟨k + 1, by omega, by go_num, Q⟩
                case measure => simp [intOf]; omega
              · have HJ := Lib.hid (And.intro hi hj)
                have H3 := Lib.hid h3
                have B3 := Lib.hid (below_step Hba.out (Nat.le_refl _) k3 (fun _ h => h.1))
                have C3 := Lib.hid (op_kept HCO.out k3)
                have c3 : w3.cell? ⟨wr.heap.size, 1, none⟩ = some (.int .i64 (i1 : Int)) := cell_of C3.out rfl
                have c4 : w3.cell? ⟨wr.heap.size, 2, none⟩ = some (.int .i64 (j1 : Int)) := cell_of C3.out rfl
                clear hi hj h3 k3
                go_wp2_with fail
                refine (ubJoinI H3.out B3.out.size (heap_lt C3.out) i1 j1).mono ?_
                rintro e w4 (⟨hbad, _⟩ | ⟨i2, j2, hi2, hj2, _, _, rfl, h4, k4⟩)
                · exact absurd HJ.out (by omega)
                obtain rfl : i2 = i1 := by omega
                obtain rfl : j2 = j1 := by omega
                have Q := Lib.hid (show Below w.heap.size w w4 ∧ SU w4 w.heap.size (.pointer (some ⟨sb, 0, none⟩)) (.pointer (some ⟨rb, 0, none⟩)) (k + 1) from
                  ⟨below_step B3.out (Nat.le_refl _) k4 (fun _ h => h.1), _, _, _, h4, by have := HLL.out; omega⟩)
                clear h4 k4 hi2 hj2
                go_wp2
                go_roundw
                case rel => exact ⟨k + 1, by omega, by go_num, Q⟩
                case measure => simp [intOf]; omega
            · have b3 : (x == 3) = false := by simp [h3]
              by_cases h4 : x = 4
              · subst h4
                clear h2 h3
                go_wp2_with fail
                refine (ubRefGetI HBS.out y).mono ?_
                rintro e w3 (⟨hbad, rfl, rfl⟩ | ⟨j, u, rfl, hj, hu, rfl, k3⟩)
                · have HBAD := Lib.hid hbad
                  clear hbad
                  go_wp2_with fail
                  refine (ubGetI HBS.out Hba.out.size (by simp) y).mono ?_
                  rintro e w4 (⟨_, rfl, rfl⟩ | ⟨j, u, rfl, hj, _⟩)
                  case inr => exact absurd HBAD.out (by omega)
                  have Q := Lib.hid (show Below w.heap.size w (wr.alloc (.cells #[.int .i64 4, .int .i64 y, .int .i64 z, .int .i64 t] 45)) ∧ SU (wr.alloc (.cells #[.int .i64 4, .int .i64 y, .int .i64 z, .int .i64 t] 45)) w.heap.size (.pointer (some ⟨sb, 0, none⟩)) (.pointer (some ⟨rb, 0, none⟩)) (k + 1) from
                    ⟨Hba.out, _, _, _, HBS.out, by have := HLL.out; omega⟩)
                  go_wp2
                  go_roundw
                  case rel => exact ⟨k + 1, by omega, by go_num, Q⟩
                  case measure => simp [intOf]; omega
                · have HJ := Lib.hid hj
                  have HU := Lib.hid hu
                  have H3 := Lib.hid (HBS.out.kept k3)
                  have B3 := Lib.hid (below_step Hba.out (Nat.le_refl _) k3 (fun _ h => h.elim))
                  have C3 := Lib.hid (op_kept HCO.out (B := 0) (k3.mono (fun _ _ h => h.elim)))
                  have c3 : w3.cell? ⟨wr.heap.size, 1, none⟩ = some (.int .i64 (j : Int)) := cell_of C3.out rfl
                  clear hj hu k3
                  go_wp2_with fail
                  refine (ubGetI H3.out B3.out.size (heap_lt C3.out) j).mono ?_
                  rintro e w4 (⟨h, _⟩ | ⟨j2, u2, hj2, _, hu2, rfl, h4, k4⟩)
                  · exact absurd HJ.out (by omega)
                  obtain rfl : j2 = j := by omega
                  obtain rfl : u2 = u := by have := HU.out; rw [hu2] at this; simpa using this
                  have Q := Lib.hid (show Below w.heap.size w w4 ∧ SU w4 w.heap.size (.pointer (some ⟨sb, 0, none⟩)) (.pointer (some ⟨rb, 0, none⟩)) (k + 1) from
                    ⟨below_step B3.out (Nat.le_refl _) k4 (fun _ h => h.1), _, _, _, h4, by have := HLL.out; omega⟩)
                  clear h4 k4 hj2 hu2
                  unfold encI
                  go_wp2
                  go_roundw
                  case rel => exact ⟨k + 1, by omega, by go_num, Q⟩
                  case measure => simp [intOf]; omega
              · have b4 : (x == 4) = false := by simp [h4]
                by_cases h5 : x = 5
                · subst h5
                  clear h2 h3 h4
                  go_wp2_with fail
                  refine (ubRefPutI HBS.out Hba.out.size (by simp) y t).mono ?_
                  rintro e w3 (⟨hbad, rfl, rfl⟩ | ⟨j, rfl, hj, rfl, h3, k3⟩)
                  · have HBAD := Lib.hid hbad
                    clear hbad
                    go_wp2_with fail
                    refine (ubPutI HBS.out Hba.out.size (by simp) y t).mono ?_
                    rintro e w4 (⟨_, rfl, rfl⟩ | ⟨j, rfl, hj, _⟩)
                    case inr => exact absurd HBAD.out (by omega)
                    have Q := Lib.hid (show Below w.heap.size w (wr.alloc (.cells #[.int .i64 5, .int .i64 y, .int .i64 z, .int .i64 t] 45)) ∧ SU (wr.alloc (.cells #[.int .i64 5, .int .i64 y, .int .i64 z, .int .i64 t] 45)) w.heap.size (.pointer (some ⟨sb, 0, none⟩)) (.pointer (some ⟨rb, 0, none⟩)) (k + 1) from
                      ⟨Hba.out, _, _, _, HBS.out, by have := HLL.out; omega⟩)
                    go_wp2
                    go_roundw
                    case rel => exact ⟨k + 1, by omega, by go_num, Q⟩
                    case measure => simp [intOf]; omega
                  · have HJ := Lib.hid hj
                    have H3 := Lib.hid h3
                    have B3 := Lib.hid (below_step Hba.out (Nat.le_refl _) k3 (fun _ h => h.1))
                    have C3 := Lib.hid (op_kept HCO.out k3)
                    have c3 : w3.cell? ⟨wr.heap.size, 1, none⟩ = some (.int .i64 (j : Int)) := cell_of C3.out rfl
                    have c4 : w3.cell? ⟨wr.heap.size, 3, none⟩ = some (.int .i64 t) := cell_of C3.out rfl
                    clear hj h3 k3
                    go_wp2_with fail
                    refine (ubPutI H3.out B3.out.size (heap_lt C3.out) j t).mono ?_
                    rintro e w4 (⟨h, _⟩ | ⟨j2, hj2, _, rfl, h4, k4⟩)
                    · exact absurd HJ.out (by omega)
                    obtain rfl : j2 = j := by omega
                    have Q := Lib.hid (show Below w.heap.size w w4 ∧ SU w4 w.heap.size (.pointer (some ⟨sb, 0, none⟩)) (.pointer (some ⟨rb, 0, none⟩)) (k + 1) from
                      ⟨below_step B3.out (Nat.le_refl _) k4 (fun _ h => h.1), _, _, _, h4, by have := HLL.out; rw [List.length_set]; omega⟩)
                    clear h4 k4 hj2
                    go_wp2
                    go_roundw
                    case rel => exact ⟨k + 1, by omega, by go_num, Q⟩
                    case measure => simp [intOf]; omega
                · have b5 : (x == 5) = false := by simp [h5]
                  by_cases h6 : x = 6
                  · subst h6
                    clear h2 h3 h4 h5
                    go_wp2_with fail
                    refine (ubRefClassI HBS.out y HL8.out).mono ?_
                    rintro e w3 (⟨hbad, rfl, rfl⟩ | ⟨j, v3, rfl, hj, rfl, f3⟩)
                    · have HBAD := Lib.hid hbad
                      clear hbad
                      go_wp2_with fail
                      refine (ubClassI HBS.out (Kept.refl _ _) Hba.out.size (by simp) y HL8.out).mono ?_
                      rintro e w4 (⟨_, rfl, rfl⟩ | ⟨j, v4, rfl, hj, _⟩)
                      case inr => exact absurd HBAD.out (by omega)
                      go_wp2_with fail
                      refine (sameI _ _ [] [] _ (Own.nil _ 3 _).rd (Own.nil _ 3 _).rd).mono ?_
                      rintro e w5 ⟨rfl, k5⟩
                      rw [decide_eq_true (rfl : ([] : List Int) = [])]
                      have Q := Lib.hid (show Below w.heap.size w w5 ∧ SU w5 w.heap.size (.pointer (some ⟨sb, 0, none⟩)) (.pointer (some ⟨rb, 0, none⟩)) (k + 1) from
                        ⟨below_step Hba.out (Nat.le_refl _) k5 (fun _ h => h.elim), _, _, _, HBS.out.kept k5, by have := HLL.out; omega⟩)
                      clear k5
                      go_wp2
                      go_roundw
                      case rel => exact ⟨k + 1, by omega, by go_num, Q⟩
                      case measure => simp [intOf]; omega
                    · have HJ := Lib.hid hj
                      have H3 := Lib.hid (HBS.out.kept f3.2.1)
                      have B3 := Lib.hid (below_step Hba.out (Nat.le_refl _) f3.2.1 (fun _ h => h.elim))
                      have C3 := Lib.hid (op_kept HCO.out (B := 0) (f3.2.1.mono (fun _ _ h => h.elim)))
                      have c3 : w3.cell? ⟨wr.heap.size, 1, none⟩ = some (.int .i64 (j : Int)) := cell_of C3.out rfl
                      have F3 := Lib.hid f3.1
                      have K3 := Lib.hid f3.2.1
                      have N3 := Lib.hid f3.2.2
                      clear hj f3
                      go_wp2_with fail
                      refine (ubClassI HBS.out K3.out B3.out.size (heap_lt C3.out) j HL8.out).mono ?_
                      rintro e w4 (⟨h, _⟩ | ⟨j2, v4, hj2, _, rfl, h4, k4, o4, n4⟩)
                      · exact absurd HJ.out (by omega)
                      obtain rfl : j2 = j := by omega
                      have H4 := Lib.hid h4
                      have B4 := Lib.hid (below_step B3.out (Nat.le_refl _) k4 (fun _ h => h.1.1))
                      have O4 := Lib.hid o4
                      have P4 := Lib.hid (F3.out.frame k4 (fun b hb h => by have := N3.out b hb; omega))
                      clear h4 k4 hj2 o4 n4
                      go_wp2_with fail
                      refine (sameI _ _ (clsOf vr.length ρ (ρ j2)) (clsOf vr.length ρ (ρ j2)) w4 P4.out.rd O4.out.rd).mono ?_
                      rintro e w5 ⟨rfl, k5⟩
                      rw [decide_eq_true (rfl : clsOf vr.length ρ (ρ j2) = clsOf vr.length ρ (ρ j2))]
                      have Q := Lib.hid (show Below w.heap.size w w5 ∧ SU w5 w.heap.size (.pointer (some ⟨sb, 0, none⟩)) (.pointer (some ⟨rb, 0, none⟩)) (k + 1) from
                        ⟨below_step B4.out (Nat.le_refl _) k5 (fun _ h => h.elim), _, _, _, H4.out.kept k5, by have := HLL.out; omega⟩)
                      clear k5
                      go_wp2
                      go_roundw
                      case rel => exact ⟨k + 1, by omega, by go_num, Q⟩
                      case measure => simp [intOf]; omega
                  · have b6 : (x == 6) = false := by simp [h6]
                    clear h1 h2 h3 h4 h5 h6
                    go_wp2_with fail
                    refine (ubLensI HBS.out).2.2.1.mono ?_
                    rintro e w3 ⟨rfl, rfl⟩
                    go_wp2_with fail
                    refine (ubLensI HBS.out).1.mono ?_
                    rintro e w3 ⟨rfl, rfl⟩
                    go_wp2_with fail
                    refine (ubLensI HBS.out).2.2.2.mono ?_
                    rintro e w3 ⟨rfl, rfl⟩
                    go_wp2_with fail
                    refine (ubLensI HBS.out).2.1.mono ?_
                    rintro e w3 ⟨rfl, rfl⟩
                    have Q := Lib.hid (show Below w.heap.size w (wr.alloc (.cells #[.int .i64 x, .int .i64 y, .int .i64 z, .int .i64 t] 45)) ∧ SU (wr.alloc (.cells #[.int .i64 x, .int .i64 y, .int .i64 z, .int .i64 t] 45)) w.heap.size (.pointer (some ⟨sb, 0, none⟩)) (.pointer (some ⟨rb, 0, none⟩)) (k + 1) from
                      ⟨Hba.out, _, _, _, HBS.out, by have := HLL.out; omega⟩)
                    go_wp2
                    go_roundw
                    case rel => exact ⟨k + 1, by omega, by go_num, Q⟩
                    case measure => simp [intOf]; omega
    · go_wp2_with fail
      go_ret
      exact ⟨rfl, hb⟩

set_option maxRecDepth 100000 in
theorem unionInts_calls : LawCalls Try.prog 5 Try.f5 := by
  intro H enc W args ds ps hval hA hsz
  rw [Try.params5] at hA hval hsz
  obtain ⟨v0, d0, rfl, rfl, h0⟩ := trodAll_one hA
  obtain ⟨base, hok⟩ := hval 0 _ v0 rfl rfl
  obtain ⟨fs, hu, hs, hfs⟩ := opFields6
  obtain ⟨xs, hx, _, _, hr⟩ := open_rows_arg Try.underlying43 hu (by rw [hs]; kernel_rfl) hfs hok h0
  rw [hs] at hx
  have hb : Try.prog.bytesOf 45 = 32 := by kernel_rfl
  have := hr hsz (j := 0) rfl rfl
  rw [hb] at this
  exact unionInts_walk v0 xs W hx this

end Go.Proofs.Ytodklnfdmcadkaa
