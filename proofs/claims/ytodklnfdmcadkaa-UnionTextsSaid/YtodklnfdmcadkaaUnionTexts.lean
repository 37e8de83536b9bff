/- The walk of UnionTexts. -/
import Derived.Test.YtodklnfdmcadkaaArgsR
import Derived.Test.YtodklnfdmcadkaaOpF6
import Derived.Test.YtodklnfdmcadkaaWakes6
import Derived.Test.YtodklnfdmcadkaaUniBS
import Derived.Test.YtodklnfdmcadkaaDigits
import Derived.Deep.RegionHeld3
namespace Go.Proofs.Ytodklnfdmcadkaa
open Go.ChangeShapes Go.WideShapes Go.ChangeAt Go.RowKit
set_option linter.unusedVariables false
set_option linter.unusedSimpArgs false

/-- What holds behind k calls. -/
def SU (w : World) (B : Nat) (p r : Value) (k : Nat) : Prop :=
  ∃ (ob : Nat) (ρ : Nat → Nat) (vr : List Int), UBS w B ob p r ρ (vr.map textB) ρ vr ∧ vr.length ≤ k ∧ ∀ x ∈ vr, InR x

/-- The call's cells are there still. -/
theorem op_kept {w w' : World} {B ob : Nat} {x y z t : Int} (h : w.heap[ob]? = some (.cells #[.int .i64 x, .int .i64 y, .int .i64 z, .int .i64 t] 45 (0, 0))) (k : Kept (fun b => B ≤ b ∧ b ≠ ob) w w') :
    w'.heap[ob]? = some (.cells #[.int .i64 x, .int .i64 y, .int .i64 z, .int .i64 t] 45 (0, 0)) :=
  (k.block ob (heap_lt h) (fun h => h.2 rfl)).trans h

/-- What holds while the union's Put of a text is reckoned out: the values are us1 or us2. -/
def PutU (w w' : World) (ob : Nat) (p r : Value) (ρ : Nat → Nat) (us1 us2 : List (List UInt8)) (vr : List Int) (o : Obj) : Prop :=
  (∃ us, (us = us1 ∨ us = us2) ∧ UBS w' w.heap.size ob p r ρ us ρ vr) ∧ Below w.heap.size w w' ∧ w'.heap[ob]? = some o

theorem putU_kept {w w1 w2 : World} {ob : Nat} {p r : Value} {ρ : Nat → Nat} {us1 us2 : List (List UInt8)} {vr : List Int} {o : Obj} (h : Hid (PutU w w1 ob p r ρ us1 us2 vr o)) (k : Kept (fun _ => False) w1 w2) : Hid (PutU w w2 ob p r ρ us1 us2 vr o) := by
  obtain ⟨⟨us, hus, h1⟩, h2, h3⟩ := h.out
  exact Lib.hid ⟨⟨us, hus, h1.kept k⟩, below_step h2 (Nat.le_refl _) k (fun _ h => h.elim), (k.block _ (heap_lt h3) id).trans h3⟩

theorem putU_cell {w w1 : World} {ob : Nat} {p r : Value} {ρ : Nat → Nat} {us1 us2 : List (List UInt8)} {vr : List Int} {c : Array Value} {ty : TypeId} (h : Hid (PutU w w1 ob p r ρ us1 us2 vr (.cells c ty (0, 0)))) {i : Nat} {u : Value} (hi : c[i]? = some u) : w1.cell? ⟨ob, i, none⟩ = some u :=
  cell_of h.out.2.2 hi

theorem putU_bad {w w1 : World} {ob : Nat} {p r : Value} {ρ : Nat → Nat} {us1 : List (List UInt8)} {vr : List Int} {o : Obj} (h : Hid (PutU w w1 ob p r ρ us1 us1 vr o)) (y : Int) (x : List UInt8) (hb : y < 0 ∨ (us1.length : Int) ≤ y) :
    Calls Try.prog 34 #[p, .int .i64 y, .string ⟨x.toArray⟩] w1 fun e w' => e = .returned (.int .i64 2) ∧ Hid (PutU w w' ob p r ρ us1 us1 vr o) := by
  obtain ⟨⟨us, hus, h1⟩, h2, h3⟩ := h.out
  obtain rfl : us = us1 := hus.elim id id
  refine (ubPutS h1 h2.size (heap_lt h3) y x).mono ?_
  rintro e w' (⟨_, rfl, rfl⟩ | ⟨j, rfl, hj, _⟩)
  · exact ⟨rfl, h⟩
  · omega

theorem putU_ok {w w1 : World} {ob : Nat} {p r : Value} {ρ : Nat → Nat} {us1 : List (List UInt8)} {vr : List Int} {o : Obj} {j : Nat} {x : List UInt8} (h : Hid (PutU w w1 ob p r ρ us1 (us1.set (ρ j) x) vr o)) (hj : j < us1.length) :
    Calls Try.prog 34 #[p, .int .i64 (j : Int), .string ⟨x.toArray⟩] w1 fun e w' => e = .returned (.int .i64 0) ∧ Hid (PutU w w' ob p r ρ us1 (us1.set (ρ j) x) vr o) ∧ Hid (UBS w' w.heap.size ob p r ρ (us1.set (ρ j) x) ρ vr) := by
  obtain ⟨⟨us, hus, h1⟩, h2, h3⟩ := h.out
  have hs : us.set (ρ j) x = us1.set (ρ j) x := by rcases hus with rfl | rfl <;> simp
  have hl : us.length = us1.length := by rcases hus with rfl | rfl <;> simp
  refine (ubPutS h1 h2.size (heap_lt h3) j x).mono ?_
  rintro e w' (⟨h, _⟩ | ⟨j2, hj2, _, rfl, h4, k4⟩)
  · omega
  · obtain rfl : j2 = j := by omega
    rw [hs] at h4
    exact ⟨rfl, Lib.hid ⟨⟨_, .inr rfl, h4⟩, below_step h2 (Nat.le_refl _) k4 (fun _ h => h.1), (k4.block _ (heap_lt h3) (fun h => h.2 rfl)).trans h3⟩, Lib.hid h4⟩

theorem inR_getD {xs : List (List Int)} (h : ∀ r ∈ xs, ∀ y ∈ r, InR y) {k : Nat} (hk : k < xs.length) (j : Nat) : InR (xs[k].getD j 0) := by
  by_cases hj : j < xs[k].length
  · rw [List.getD_eq_getElem?_getD, List.getElem?_eq_getElem hj]
    exact h _ (List.getElem_mem hk) _ (List.getElem_mem hj)
  · rw [List.getD_eq_getElem?_getD, List.getElem?_eq_none (by omega)]
    exact ⟨by decide, by decide⟩

set_option maxRecDepth 100000 in
set_option maxHeartbeats 4000000 in
theorem unionTexts_walk (v : Value) (xs : List (List Int)) (w : World) (hx : RdRows w 4 v xs) (hin : ∀ r ∈ xs, ∀ y ∈ r, InR y) (hreach : xs.length * 32 ≤ 140737488351232) :
    Calls Try.prog 6 #[v] w fun e w' => e = .returned (.bool true) ∧ Below w.heap.size w w' := by
  obtain ⟨a, c, rfl, ka1, ka2, ka3⟩ := hx.shape
  have HX := Lib.hid hx
  have KA := Lib.hid ka3
  have HIN := Lib.hid hin
  clear hx ka3 hin
  unfold maxLen at ka2
  go_enter Try.func6, Try.ntmps6
  go_wp2_with fail
  refine (wakes_any w).mono ?_
  rintro e w1 ⟨rfl, hb1⟩
  go_wp2_with fail
  refine (uniNewS w1).mono ?_
  rintro e w2 ⟨rfl, hI0, hk0⟩
  obtain ⟨sb, hsb⟩ : ∃ sb, sb = w1.heap.size := ⟨_, rfl⟩
  obtain ⟨rb, hrb⟩ : ∃ rb, rb = w2.heap.size := ⟨_, rfl⟩
  have hb2 := below_step hb1 (Nat.le_refl _) hk0 (fun _ h => h.elim)
  have HS0 := Lib.hid (show SU (w2.alloc (.cells #[.slice none 0 0, .slice none 0 0] 29)) w.heap.size (.pointer (some ⟨w1.heap.size, 0, none⟩)) (.pointer (some ⟨w2.heap.size, 0, none⟩)) 0 from
    ⟨w2.heap.size + 1, id, [], ⟨fun x => x = w1.heap.size, fun x => x = w2.heap.size, hI0.frame ((Kept.refl (fun _ => False) w2).alloc _) (fun _ _ => id), RUn.made w2, fun x h1 h2 => by have := hI0.lt h1; omega, fun x h => ⟨by have := hb1.size; omega, by have := hI0.lt h; omega⟩, fun x h => ⟨by have := hb2.size; omega, by omega⟩⟩, Nat.le_refl _, by simp⟩)
  have HL0 := Lib.hid (hb2.alloc hb2.size (.cells #[.slice none 0 0, .slice none 0 0] 29))
  rw [← hsb] at HS0 ⊢
  clear hI0 hk0 hb1 hb2 hsb
  go_wp2_with fail
  rw [← hrb] at HS0 ⊢
  clear hrb
  go_loopw [5] (fun i wr => ∃ k : Nat, k ≤ xs.length ∧ i = .int .i64 k ∧ Hid (Below w.heap.size w wr ∧ SU wr w.heap.size (.pointer (some ⟨sb, 0, none⟩)) (.pointer (some ⟨rb, 0, none⟩)) k)) (fun i _ => xs.length - (intOf i).toNat)
  case atStart => exact ⟨0, Nat.zero_le _, rfl, Lib.hid ⟨HL0.out, HS0.out⟩⟩
  case round =>
    obtain ⟨k, hk, rfl, hH⟩ := hrel
    obtain ⟨hb, ob0, ρ, vr, hBS, hLl, hIn⟩ := hH.out
    by_cases hlt : k < xs.length
    · cases a with
      | none => exact absurd (KA.out rfl).1 (by omega)
      | some ad =>
        have cx := (HX.out.later hb).cell hlt (j := 0) (by omega)
        have cy := (HX.out.later hb).cell' hlt (j := 1) (by omega) (by omega)
        have cz := (HX.out.later hb).cell' hlt (j := 2) (by omega) (by omega)
        have ct := (HX.out.later hb).cell' hlt (j := 3) (by omega) (by omega)
        simp only [Nat.add_zero] at cx
        generalize xs[k].getD 0 0 = x at cx
        generalize xs[k].getD 1 0 = y at cy
        generalize xs[k].getD 2 0 = z at cz
        have HIT := Lib.hid (inR_getD HIN.out hlt 3)
        generalize xs[k].getD 3 0 = t at ct HIT
        obtain ⟨o, ho⟩ : ∃ o, o = Obj.cells #[.int .i64 x, .int .i64 y, .int .i64 z, .int .i64 t] 45 := ⟨_, rfl⟩
        have hba : Below w.heap.size w (wr.alloc o) := hb.alloc hb.size o
        have hco : (wr.alloc o).heap[wr.heap.size]? = some o := by show (wr.heap.push _)[wr.heap.size]? = _; simp
        have HBS := Lib.hid (hBS.out (o := wr.heap.size) ((Kept.refl (fun _ => False) wr).alloc o) (Nat.le_refl _))
        have Hba := Lib.hid hba
        have HCO := Lib.hid hco
        rw [ho] at HBS Hba HCO
        have HT8 : Hid (Fits (vr.length + 1) 8) := Lib.hid (fits_of (by omega) (by decide))
        have HT32 : Hid (Fits ((vr.map textB).length + 1) 32) := Lib.hid (fits_of (by rw [List.length_map]; omega) (by decide))
        have HL8 : Hid (vr.length * 8 ≤ 140737488355328) := Lib.hid (by omega)
        have HLL := Lib.hid hLl
        have HVI := Lib.hid hIn
        have hlm : (vr.map textB).length = vr.length := List.length_map _
        clear hBS hb hH hba hco ho o hLl hIn
        by_cases h1 : x = 1
        · subst h1
          go_wp2_with fail
          refine (ubRefAddS HBS.out Hba.out.size (by simp) t HT8.out).mono ?_
          rintro e w3 ⟨rfl, h3, k3⟩
          have H3 := Lib.hid h3
          have B3 := Lib.hid (below_step Hba.out (Nat.le_refl _) k3 (fun _ h => h.1))
          have C3 := Lib.hid (op_kept HCO.out k3)
          have c3 : w3.cell? ⟨wr.heap.size, 3, none⟩ = some (.int .i64 t) := cell_of C3.out rfl
          clear h3 k3
          go_wp2_with fail
          refine (text_text t w3 HIT.out.1 HIT.out.2).mono ?_
          rintro e w5 ⟨rfl, k5⟩
          have H5 := Lib.hid (H3.out.kept k5)
          have B5 := Lib.hid (below_step B3.out (Nat.le_refl _) k5 (fun _ h => h.elim))
          have L5 := Lib.hid (show wr.heap.size < w5.heap.size from Nat.lt_of_lt_of_le (heap_lt C3.out) k5.size)
          clear k5
          go_wp2_with fail
          refine (ubAddS H5.out B5.out.size L5.out (textB t) HT32.out).mono ?_
          rintro e w4 ⟨rfl, h4, k4⟩
          have Q := Lib.hid (show Below w.heap.size w w4 ∧ SU w4 w.heap.size (.pointer (some ⟨sb, 0, none⟩)) (.pointer (some ⟨rb, 0, none⟩)) (k + 1) from
            ⟨below_step B5.out (Nat.le_refl _) k4 (fun _ h => h.1), _, _, vr ++ [t], by simpa using h4, by have := HLL.out; simp; omega, fun y hy => by
              rcases List.mem_append.1 hy with h | h
              · exact HVI.out y h
              · simp at h; subst h; exact HIT.out⟩)
          clear h4 k4
          go_wp2
          go_roundw
          case rel => exact ⟨k + 1, by omega, by go_num, Q⟩
          case measure => simp [intOf]; omega
        · have b1 : (x == 1) = false := by simp [h1]
          by_cases h2 : x = 2
          · subst h2
            clear h1
            go_wp2_with fail
            refine (ubRefFindS HBS.out y).mono ?_
            rintro e w3 (⟨hbad, rfl, rfl⟩ | ⟨j, rfl, hj, rfl, rfl⟩)
            · have HBAD := Lib.hid hbad
              clear hbad
              go_wp2_with fail
              refine (hlm ▸ ubFindS HBS.out Hba.out.size (by simp) y).mono ?_
              rintro e w4 (⟨_, rfl, rfl⟩ | ⟨j, rfl, hj, _⟩)
              case inr => exact absurd HBAD.out (by omega)
              have Q := Lib.hid (show Below w.heap.size w (wr.alloc (.cells #[.int .i64 2, .int .i64 y, .int .i64 z, .int .i64 t] 45)) ∧ SU (wr.alloc (.cells #[.int .i64 2, .int .i64 y, .int .i64 z, .int .i64 t] 45)) w.heap.size (.pointer (some ⟨sb, 0, none⟩)) (.pointer (some ⟨rb, 0, none⟩)) (k + 1) from
                ⟨Hba.out, _, _, _, HBS.out, by have := HLL.out; omega, HVI.out⟩)
              go_wp2
              go_roundw
              case rel => exact ⟨k + 1, by omega, by go_num, Q⟩
              case measure => simp [intOf]; omega
            · have HJ := Lib.hid hj
              clear hj
              go_wp2_with fail
              refine (hlm ▸ ubFindS HBS.out Hba.out.size (by simp) j).mono ?_
              rintro e w4 (⟨h, _⟩ | ⟨j2, hj2, _, rfl, h4, k4⟩)
              · exact absurd HJ.out (by omega)
              obtain rfl : j2 = j := by omega
              have Q := Lib.hid (show Below w.heap.size w w4 ∧ SU w4 w.heap.size (.pointer (some ⟨sb, 0, none⟩)) (.pointer (some ⟨rb, 0, none⟩)) (k + 1) from
                ⟨below_step Hba.out (Nat.le_refl _) k4 (fun _ h => h.1), _, _, _, h4, by have := HLL.out; omega, HVI.out⟩)
              clear h4 k4 hj2
              go_wp2
              go_roundw
              case rel => exact ⟨k + 1, by omega, by go_num, Q⟩
              case measure => simp [intOf]; omega
          · have b2 : (x == 2) = false := by simp [h2]
            by_cases h3 : x = 3
            · subst h3
              clear h2
              go_wp2_with fail
              refine (ubRefJoinS HBS.out Hba.out.size (by simp) y z).mono ?_
              rintro e w3 (⟨hbad, rfl, rfl⟩ | ⟨i1, j1, rfl, rfl, hi, hj, rfl, h3, k3⟩)
              · have HBAD := Lib.hid hbad
                clear hbad
                go_wp2_with fail
                refine (hlm ▸ ubJoinS HBS.out Hba.out.size (by simp) y z).mono ?_
                rintro e w4 (⟨_, rfl, h4, k4⟩ | ⟨i2, j2, rfl, rfl, hi, hj, _⟩)
                case inr => exact absurd HBAD.out (by omega)
                have Q := Lib.hid (show Below w.heap.size w w4 ∧ SU w4 w.heap.size (.pointer (some ⟨sb, 0, none⟩)) (.pointer (some ⟨rb, 0, none⟩)) (k + 1) from
                  ⟨below_step Hba.out (Nat.le_refl _) k4 (fun _ h => h.1), _, _, _, h4, by have := HLL.out; omega, HVI.out⟩)
                clear h4 k4
                go_wp2
                go_roundw
                case rel => exact ⟨k + 1, by omega, by go_num, Q⟩
                case measure => simp [intOf]; omega
              · have HJ := Lib.hid (And.intro hi hj)
                have H3 := Lib.hid h3
                have B3 := Lib.hid (below_step Hba.out (Nat.le_refl _) k3 (fun _ h => h.1))
                have C3 := Lib.hid (op_kept HCO.out k3)
                have c3 : w3.cell? ⟨wr.heap.size, 1, none⟩ = some (.int .i64 (i1 : Int)) := cell_of C3.out rfl
                have c4 : w3.cell? ⟨wr.heap.size, 2, none⟩ = some (.int .i64 (j1 : Int)) := cell_of C3.out rfl
                clear hi hj h3 k3
                go_wp2_with fail
                refine (hlm ▸ ubJoinS H3.out B3.out.size (heap_lt C3.out) i1 j1).mono ?_
                rintro e w4 (⟨hbad, _⟩ | ⟨i2, j2, hi2, hj2, _, _, rfl, h4, k4⟩)
                · exact absurd HJ.out (by omega)
                obtain rfl : i2 = i1 := by omega
                obtain rfl : j2 = j1 := by omega
                have Q := Lib.hid (show Below w.heap.size w w4 ∧ SU w4 w.heap.size (.pointer (some ⟨sb, 0, none⟩)) (.pointer (some ⟨rb, 0, none⟩)) (k + 1) from
                  ⟨below_step B3.out (Nat.le_refl _) k4 (fun _ h => h.1), _, _, _, h4, by have := HLL.out; omega, HVI.out⟩)
                clear h4 k4 hi2 hj2
                go_wp2
                go_roundw
                case rel => exact ⟨k + 1, by omega, by go_num, Q⟩
                case measure => simp [intOf]; omega
            · have b3 : (x == 3) = false := by simp [h3]
              by_cases h4 : x = 4
              · subst h4
                clear h2 h3
                go_wp2_with fail
                refine (ubRefGetS HBS.out y).mono ?_
                rintro e w3 (⟨hbad, rfl, rfl⟩ | ⟨j, u, rfl, hj, hu, rfl, k3⟩)
                · have HBAD := Lib.hid hbad
                  clear hbad
                  go_wp2_with fail
                  refine (hlm ▸ ubGetS HBS.out Hba.out.size (by simp) y).mono ?_
                  rintro e w4 (⟨_, rfl, rfl⟩ | ⟨j, u, rfl, hj, _⟩)
                  case inr => exact absurd HBAD.out (by omega)
                  have Q := Lib.hid (show Below w.heap.size w (wr.alloc (.cells #[.int .i64 4, .int .i64 y, .int .i64 z, .int .i64 t] 45)) ∧ SU (wr.alloc (.cells #[.int .i64 4, .int .i64 y, .int .i64 z, .int .i64 t] 45)) w.heap.size (.pointer (some ⟨sb, 0, none⟩)) (.pointer (some ⟨rb, 0, none⟩)) (k + 1) from
                    ⟨Hba.out, _, _, _, HBS.out, by have := HLL.out; omega, HVI.out⟩)
                  go_wp2
                  go_roundw
                  case rel => exact ⟨k + 1, by omega, by go_num, Q⟩
                  case measure => simp [intOf]; omega
                · have HJ := Lib.hid hj
                  have HU := Lib.hid hu
                  have H3 := Lib.hid (HBS.out.kept k3)
                  have B3 := Lib.hid (below_step Hba.out (Nat.le_refl _) k3 (fun _ h => h.elim))
                  have C3 := Lib.hid (op_kept HCO.out (B := 0) (k3.mono (fun _ _ h => h.elim)))
                  have c3 : w3.cell? ⟨wr.heap.size, 1, none⟩ = some (.int .i64 (j : Int)) := cell_of C3.out rfl
                  clear hj hu k3
                  go_wp2_with fail
                  refine (hlm ▸ ubGetS H3.out B3.out.size (heap_lt C3.out) j).mono ?_
                  rintro e w4 (⟨h, _⟩ | ⟨j2, u2, hj2, _, hu2, rfl, h4, k4⟩)
                  · exact absurd HJ.out (by omega)
                  obtain rfl : j2 = j := by omega
                  obtain rfl : u2 = textB u := by have := HU.out; rw [List.getElem?_map, this] at hu2; simpa using hu2.symm
                  have HUI := Lib.hid (HVI.out u (List.mem_of_getElem? HU.out))
                  have H4 := Lib.hid h4
                  have B4 := Lib.hid (below_step B3.out (Nat.le_refl _) k4 (fun _ h => h.1))
                  clear h4 k4 hj2 hu2
                  unfold encS
                  go_wp2_with fail
                  refine (text_text u _ HUI.out.1 HUI.out.2).mono ?_
                  rintro e w5 ⟨rfl, k5⟩
                  have Q := Lib.hid (show Below w.heap.size w w5 ∧ SU w5 w.heap.size (.pointer (some ⟨sb, 0, none⟩)) (.pointer (some ⟨rb, 0, none⟩)) (k + 1) from
                    ⟨below_step B4.out (Nat.le_refl _) k5 (fun _ h => h.elim), _, _, _, H4.out.kept k5, by have := HLL.out; omega, HVI.out⟩)
                  clear k5
                  go_wp2
                  go_roundw
                  case rel => exact ⟨k + 1, by omega, by go_num, Q⟩
                  case measure => simp [intOf]; omega
              · have b4 : (x == 4) = false := by simp [h4]
                by_cases h5 : x = 5
                · subst h5
                  clear h2 h3 h4
                  go_wp2_with fail
                  as_aux_lemma =>
                    go_wp2_with fail
                    refine (ubRefPutS HBS.out Hba.out.size (by simp) y t).mono ?_
                    rintro e w3 (⟨hbad, rfl, rfl⟩ | ⟨j, rfl, hj, rfl, h3, k3⟩)
                    · have HBAD := Lib.hid (show y < 0 ∨ ((vr.map textB).length : Int) ≤ y by rw [hlm]; exact hbad)
                      clear hbad
                      generalize wr.alloc (.cells #[.int .i64 5, .int .i64 y, .int .i64 z, .int .i64 t] 45) = w3 at HBS Hba HCO ⊢
                      have HP : Hid (PutU w w3 wr.heap.size (.pointer (some ⟨sb, 0, none⟩)) (.pointer (some ⟨rb, 0, none⟩)) ρ (vr.map textB) (vr.map textB) vr (.cells #[.int .i64 5, .int .i64 y, .int .i64 z, .int .i64 t] 45 (0, 0))) := Lib.hid ⟨⟨_, .inl rfl, HBS.out⟩, Hba.out, HCO.out⟩
                      have c1 : w3.cell? ⟨wr.heap.size, 1, none⟩ = some (.int .i64 y) := putU_cell HP rfl
                      have c2 : w3.cell? ⟨wr.heap.size, 3, none⟩ = some (.int .i64 t) := putU_cell HP rfl
                      go_wp2_with fail
                      go_region_held3 (fun w' => w'.cell? ⟨wr.heap.size, 1, none⟩ = some (.int .i64 y) ∧ w'.cell? ⟨wr.heap.size, 3, none⟩ = some (.int .i64 t) ∧ Hid (PutU w w' wr.heap.size (.pointer (some ⟨sb, 0, none⟩)) (.pointer (some ⟨rb, 0, none⟩)) ρ (vr.map textB) (vr.map textB) vr (.cells #[.int .i64 5, .int .i64 y, .int .i64 z, .int .i64 t] 45 (0, 0))))
                        (first
                          | exact ⟨c1, c2, putU_kept HP ((Kept.refl _ _).drew)⟩
                          | (go_split_ands; refine ⟨?_, ?_, putU_kept ?_ k5⟩ <;> first | assumption | exact k5.cell (by assumption) id)
                          | exact ⟨putU_cell hp6 rfl, putU_cell hp6 rfl, hp6⟩
                          | go_keep)
                        (first
                          | (go_at_call 30; refine (text_text t _ HIT.out.1 HIT.out.2).mono ?_; rintro e w5 ⟨rfl, k5⟩)
                          | (go_at_call 34; go_split_ands; refine (putU_bad (by assumption) y (textB t) HBAD.out).mono ?_; rintro e w6 ⟨rfl, hp6⟩))
                      have Q := Lib.hid (show Below w.heap.size w w6 ∧ SU w6 w.heap.size (.pointer (some ⟨sb, 0, none⟩)) (.pointer (some ⟨rb, 0, none⟩)) (k + 1) from by
                        obtain ⟨⟨us, hus, h1⟩, h2, h3⟩ := hp6.out
                        obtain rfl : us = vr.map textB := hus.elim id id
                        exact ⟨h2, _, _, _, h1, Nat.le_succ_of_le HLL.out, HVI.out⟩)
                      clear hp6
                      go_wp2
                      go_roundw
                      case rel => exact ⟨k + 1, by omega, by go_num, Q⟩
                      case measure => simp [intOf]; omega
                    · have HJ := Lib.hid (show j < (vr.map textB).length by rw [hlm]; exact hj)
                      have HP : Hid (PutU w w3 wr.heap.size (.pointer (some ⟨sb, 0, none⟩)) (.pointer (some ⟨rb, 0, none⟩)) ρ (vr.map textB) ((vr.map textB).set (ρ j) (textB t)) (vr.set (ρ j) t) (.cells #[.int .i64 5, .int .i64 (j : Int), .int .i64 z, .int .i64 t] 45 (0, 0))) := Lib.hid ⟨⟨_, .inl rfl, h3⟩, below_step Hba.out (Nat.le_refl _) k3 (fun _ h => h.1), op_kept HCO.out k3⟩
                      have c1 : w3.cell? ⟨wr.heap.size, 1, none⟩ = some (.int .i64 (j : Int)) := putU_cell HP rfl
                      have c2 : w3.cell? ⟨wr.heap.size, 3, none⟩ = some (.int .i64 t) := putU_cell HP rfl
                      clear hj h3 k3
                      go_wp2_with fail
                      go_region_held3 (fun w' => w'.cell? ⟨wr.heap.size, 1, none⟩ = some (.int .i64 (j : Int)) ∧ w'.cell? ⟨wr.heap.size, 3, none⟩ = some (.int .i64 t) ∧ Hid (PutU w w' wr.heap.size (.pointer (some ⟨sb, 0, none⟩)) (.pointer (some ⟨rb, 0, none⟩)) ρ (vr.map textB) ((vr.map textB).set (ρ j) (textB t)) (vr.set (ρ j) t) (.cells #[.int .i64 5, .int .i64 (j : Int), .int .i64 z, .int .i64 t] 45 (0, 0))))
                        (first
                          | exact ⟨c1, c2, putU_kept HP ((Kept.refl _ _).drew)⟩
                          | (go_split_ands; refine ⟨?_, ?_, putU_kept ?_ k5⟩ <;> first | assumption | exact k5.cell (by assumption) id)
                          | exact ⟨putU_cell hp6 rfl, putU_cell hp6 rfl, hp6⟩
                          | go_keep)
                        (first
                          | (go_at_call 30; refine (text_text t _ HIT.out.1 HIT.out.2).mono ?_; rintro e w5 ⟨rfl, k5⟩)
                          | (go_at_call 34; go_split_ands; refine (putU_ok (j := j) (x := textB t) (by assumption) HJ.out).mono ?_; rintro e w6 ⟨rfl, hp6, hq6⟩))
                      have Q := Lib.hid (show Below w.heap.size w w6 ∧ SU w6 w.heap.size (.pointer (some ⟨sb, 0, none⟩)) (.pointer (some ⟨rb, 0, none⟩)) (k + 1) from by
                        have h1 := hq6.out
                        rw [← List.map_set] at h1
                        exact ⟨hp6.out.2.1, _, _, _, h1, by rw [List.length_set]; exact Nat.le_succ_of_le HLL.out, fun y hy => by
                          rcases List.mem_or_eq_of_mem_set hy with h | h
                          · exact HVI.out y h
                          · subst h; exact HIT.out⟩)
                      clear hp6 hq6
                      go_wp2
                      go_roundw
                      case rel => exact ⟨k + 1, by omega, by go_num, Q⟩
                      case measure => simp [intOf]; omega
                · have b5 : (x == 5) = false := by simp [h5]
                  by_cases h6 : x = 6
                  · subst h6
                    clear h2 h3 h4 h5
                    go_wp2_with fail
                    refine (ubRefClassS HBS.out y HL8.out).mono ?_
                    rintro e w3 (⟨hbad, rfl, rfl⟩ | ⟨j, v3, rfl, hj, rfl, f3⟩)
                    · have HBAD := Lib.hid hbad
                      clear hbad
                      go_wp2_with fail
                      refine (hlm ▸ ubClassS HBS.out (Kept.refl _ _) Hba.out.size (by simp) y (by rw [hlm]; exact HL8.out)).mono ?_
                      rintro e w4 (⟨_, rfl, rfl⟩ | ⟨j, v4, rfl, hj, _⟩)
                      case inr => exact absurd HBAD.out (by omega)
                      go_wp2_with fail
                      refine (sameI _ _ [] [] _ (Own.nil _ 3 _).rd (Own.nil _ 3 _).rd).mono ?_
                      rintro e w5 ⟨rfl, k5⟩
                      rw [decide_eq_true (rfl : ([] : List Int) = [])]
                      have Q := Lib.hid (show Below w.heap.size w w5 ∧ SU w5 w.heap.size (.pointer (some ⟨sb, 0, none⟩)) (.pointer (some ⟨rb, 0, none⟩)) (k + 1) from
                        ⟨below_step Hba.out (Nat.le_refl _) k5 (fun _ h => h.elim), _, _, _, HBS.out.kept k5, by have := HLL.out; omega, HVI.out⟩)
                      clear k5
                      go_wp2
                      go_roundw
                      case rel => exact ⟨k + 1, by omega, by go_num, Q⟩
                      case measure => simp [intOf]; omega
                    · have HJ := Lib.hid hj
                      have H3 := Lib.hid (HBS.out.kept f3.2.1)
                      have B3 := Lib.hid (below_step Hba.out (Nat.le_refl _) f3.2.1 (fun _ h => h.elim))
                      have C3 := Lib.hid (op_kept HCO.out (B := 0) (f3.2.1.mono (fun _ _ h => h.elim)))
                      have c3 : w3.cell? ⟨wr.heap.size, 1, none⟩ = some (.int .i64 (j : Int)) := cell_of C3.out rfl
                      have F3 := Lib.hid f3.1
                      have K3 := Lib.hid f3.2.1
                      have N3 := Lib.hid f3.2.2
                      clear hj f3
                      go_wp2_with fail
                      refine (hlm ▸ ubClassS HBS.out K3.out B3.out.size (heap_lt C3.out) j (by rw [hlm]; exact HL8.out)).mono ?_
                      rintro e w4 (⟨h, _⟩ | ⟨j2, v4, hj2, _, rfl, h4, k4, o4, n4⟩)
                      · exact absurd HJ.out (by omega)
                      obtain rfl : j2 = j := by omega
                      have H4 := Lib.hid h4
                      have B4 := Lib.hid (below_step B3.out (Nat.le_refl _) k4 (fun _ h => h.1.1))
                      have O4 := Lib.hid o4
                      have P4 := Lib.hid (F3.out.frame k4 (fun b hb h => by have := N3.out b hb; omega))
                      clear h4 k4 hj2 o4 n4
                      go_wp2_with fail
                      refine (sameI _ _ (clsOf vr.length ρ (ρ j2)) (clsOf vr.length ρ (ρ j2)) w4 P4.out.rd O4.out.rd).mono ?_
                      rintro e w5 ⟨rfl, k5⟩
                      rw [decide_eq_true (rfl : clsOf vr.length ρ (ρ j2) = clsOf vr.length ρ (ρ j2))]
                      have Q := Lib.hid (show Below w.heap.size w w5 ∧ SU w5 w.heap.size (.pointer (some ⟨sb, 0, none⟩)) (.pointer (some ⟨rb, 0, none⟩)) (k + 1) from
                        ⟨below_step B4.out (Nat.le_refl _) k5 (fun _ h => h.elim), _, _, _, H4.out.kept k5, by have := HLL.out; omega, HVI.out⟩)
                      clear k5
                      go_wp2
                      go_roundw
                      case rel => exact ⟨k + 1, by omega, by go_num, Q⟩
                      case measure => simp [intOf]; omega
                  · have b6 : (x == 6) = false := by simp [h6]
                    clear h1 h2 h3 h4 h5 h6
                    go_wp2_with fail
                    refine (ubLensS HBS.out).2.2.1.mono ?_
                    rintro e w3 ⟨rfl, rfl⟩
                    go_wp2_with fail
                    refine (ubLensS HBS.out).1.mono ?_
                    rintro e w3 ⟨rfl, rfl⟩
                    go_wp2_with fail
                    refine (ubLensS HBS.out).2.2.2.mono ?_
                    rintro e w3 ⟨rfl, rfl⟩
                    go_wp2_with fail
                    refine (ubLensS HBS.out).2.1.mono ?_
                    rintro e w3 ⟨rfl, rfl⟩
                    have Q := Lib.hid (show Below w.heap.size w (wr.alloc (.cells #[.int .i64 x, .int .i64 y, .int .i64 z, .int .i64 t] 45)) ∧ SU (wr.alloc (.cells #[.int .i64 x, .int .i64 y, .int .i64 z, .int .i64 t] 45)) w.heap.size (.pointer (some ⟨sb, 0, none⟩)) (.pointer (some ⟨rb, 0, none⟩)) (k + 1) from
                      ⟨Hba.out, _, _, _, HBS.out, by have := HLL.out; omega, HVI.out⟩)
                    go_wp2
                    go_roundw
                    case rel => exact ⟨k + 1, by omega, by go_num, Q⟩
                    case measure => simp [intOf]; omega
    · go_wp2_with fail
      go_ret
      exact ⟨rfl, hb⟩

set_option maxRecDepth 100000 in
theorem unionTexts_calls : LawCalls Try.prog 6 Try.f6 := by
  intro H enc W args ds ps hval hA hsz
  rw [Try.params6] at hA hval hsz
  obtain ⟨v0, d0, rfl, rfl, h0⟩ := trodAll_one hA
  obtain ⟨base, hok⟩ := hval 0 _ v0 rfl rfl
  obtain ⟨fs, hu, hs, hfs⟩ := opFields6
  obtain ⟨xs, hx, hin, _, hr⟩ := open_rows_arg Try.underlying43 hu (by rw [hs]; kernel_rfl) hfs hok h0
  rw [hs] at hx
  have hb : Try.prog.bytesOf 45 = 32 := by kernel_rfl
  have := hr hsz (j := 0) rfl rfl
  rw [hb] at this
  exact unionTexts_walk v0 xs W hx (fun r h => (hin r h).2) this

end Go.Proofs.Ytodklnfdmcadkaa
