/- The walk of ScopeTexts. -/
import Derived.Test.YtllcklddfcclfaaArgsR
import Derived.Test.YtllcklddfcclfaaOpF4
import Derived.Test.YtllcklddfcclfaaWakes4
import Derived.Test.YtllcklddfcclfaaBothST
import Derived.Test.YtllcklddfcclfaaTextsS
import Derived.Test.YtllcklddfcclfaaPairT
import Derived.Test.YtllcklddfcclfaaSameS
import Derived.Test.YtllcklddfcclfaaFitsWide
import Derived.Deep.RegionWith
namespace Go.Proofs.Ytllcklddfcclfaa
open Go.ChangeShapes Go.WideShapes Go.ChangeAt Go.RowKit
set_option linter.unusedVariables false
set_option linter.unusedSimpArgs false

/-- What holds behind k calls. -/
def SX (w : World) (B : Nat) (p r : Value) (k : Nat) : Prop :=
  ∃ (ob : Nat) (fs : List (List (Int × Int))) (f : List (Int × Int)), BST w B ob p r (fs ++ [f]) fs.length (refL (fs ++ [f])) ∧ (∀ g ∈ fs ++ [f], g.length ≤ k) ∧ fs.length ≤ k ∧ (refL (fs ++ [f])).length ≤ k ∧ ∀ g ∈ fs ++ [f], ∀ it ∈ g, InR it.1 ∧ InR it.2

theorem inR_getD {xs : List (List Int)} (h : ∀ r ∈ xs, ∀ y ∈ r, InR y) {k : Nat} (hk : k < xs.length) (j : Nat) : InR (xs[k].getD j 0) := by
  by_cases hj : j < xs[k].length
  · rw [List.getD_eq_getElem?_getD, List.getElem?_eq_getElem hj]
    exact h _ (List.getElem_mem hk) _ (List.getElem_mem hj)
  · rw [List.getD_eq_getElem?_getD, List.getElem?_eq_none (by omega)]
    exact ⟨by decide, by decide⟩

set_option maxRecDepth 100000 in
set_option maxHeartbeats 8000000 in
theorem scopeTexts_walk (v : Value) (xs : List (List Int)) (w : World) (hx : RdRows w 3 v xs) (hin : ∀ r ∈ xs, ∀ y ∈ r, InR y) (hreach : xs.length * 24 ≤ 140737488351232) :
    Calls Try.prog 5 #[v] w fun e w' => e = .returned (.bool true) ∧ Below w.heap.size w w' := by
  obtain ⟨a, c, rfl, ka1, ka2, ka3⟩ := hx.shape
  have HX := Lib.hid hx
  have KA := Lib.hid ka3
  have HIN := Lib.hid hin
  clear hx ka3 hin
  unfold maxLen at ka2
  go_enter Try.func5, Try.ntmps5
  go_wp2_with fail
  refine (wakes_any w).mono ?_
  rintro e w1 ⟨rfl, hb1⟩
  go_wp2_with fail
  refine (scopeNewST w1).mono ?_
  rintro e w2 ⟨b, mb, F0, rfl, hI0, hk0, hF0⟩
  obtain ⟨rb, hrb⟩ : ∃ rb, rb = w2.heap.size := ⟨_, rfl⟩
  have hb2 := below_step hb1 (Nat.le_refl _) hk0 (fun _ h => h.elim)
  have HS0 := Lib.hid (show SX (w2.alloc (.cells #[.int .i64 0, .slice none 0 0] 39)) w.heap.size (.pointer (some ⟨b, 0, none⟩)) (.pointer (some ⟨w2.heap.size, 0, none⟩)) 0 from
    ⟨w2.heap.size + 1, [], [], ⟨F0, fun x => x = w2.heap.size, _, hI0.frame ((Kept.refl (fun _ => False) w2).alloc _) (fun _ _ => id), rfl, RSc.made w2, fun x h1 h2 => by have := hI0.lt h1; omega, fun x h => ⟨Nat.le_trans hb1.size (hF0 x h), by have := hI0.lt h; omega⟩, fun x h => ⟨by have := hb2.size; omega, by omega⟩⟩, by simp, Nat.le_refl _, by simp [refL], by simp⟩)
  have HL0 := Lib.hid (hb2.alloc hb2.size (.cells #[.int .i64 0, .slice none 0 0] 39))
  clear hI0 hF0 hk0 hb1 hb2
  go_wp2_with fail
  rw [← hrb] at HS0 ⊢
  clear hrb
  go_loopw [5] (fun i wr => ∃ k : Nat, k ≤ xs.length ∧ i = .int .i64 k ∧ Hid (Below w.heap.size w wr ∧ SX wr w.heap.size (.pointer (some ⟨b, 0, none⟩)) (.pointer (some ⟨rb, 0, none⟩)) k)) (fun i _ => xs.length - (intOf i).toNat)
  case atStart => exact ⟨0, Nat.zero_le _, rfl, Lib.hid ⟨HL0.out, HS0.out⟩⟩
  case round =>
    obtain ⟨k, hk, rfl, hH⟩ := hrel
    obtain ⟨hb, ob0, fs, f, hBS, hlen, hfl, hLl, hVI⟩ := hH.out
    by_cases hlt : k < xs.length
    · cases a with
      | none => exact absurd (KA.out rfl).1 (by omega)
      | some ad =>
        have cx := (HX.out.later hb).cell hlt (j := 0) (by omega)
        have cy := (HX.out.later hb).cell' hlt (j := 1) (by omega) (by omega)
        have cz := (HX.out.later hb).cell' hlt (j := 2) (by omega) (by omega)
        simp only [Nat.add_zero] at cx
        generalize xs[k].getD 0 0 = x at cx
        have HIY := Lib.hid (inR_getD HIN.out hlt 1)
        have HIZ := Lib.hid (inR_getD HIN.out hlt 2)
        generalize xs[k].getD 1 0 = y at cy HIY
        generalize xs[k].getD 2 0 = z at cz HIZ
        obtain ⟨o, ho⟩ : ∃ o, o = Obj.cells #[.int .i64 x, .int .i64 y, .int .i64 z] 41 := ⟨_, rfl⟩
        have hba : Below w.heap.size w (wr.alloc o) := hb.alloc hb.size o
        have hco : (wr.alloc o).heap[wr.heap.size]? = some o := by show (wr.heap.push _)[wr.heap.size]? = _; simp
        have HBS := Lib.hid (hBS.out (o := wr.heap.size) ((Kept.refl (fun _ => False) wr).alloc o) (Nat.le_refl _))
        have Hba := Lib.hid hba
        have HCO := Lib.hid hco
        rw [ho] at HBS Hba HCO
        have HLEN := Lib.hid hlen
        have HT24 : Hid (Fits ((refL (fs ++ [f])).length + 1) 24) := Lib.hid (fits_of (by omega) (by decide))
        have HT16 : Hid (Fits (f.length + 1) 16) := Lib.hid (fits_of (by have := hlen f (by simp); omega) (by decide))
        have HT32 : Hid (Fits ((fs ++ [f]).length + 1) 32) := Lib.hid (fits_frames_le hreach (by simp; omega))
        have HL24 : Hid ((refL (fs ++ [f])).length * 24 ≤ 140737488355328) := Lib.hid (by omega)
        have HFL := Lib.hid hfl
        have HLL := Lib.hid hLl
        have HVI := Lib.hid hVI
        clear hVI hBS hb hH hba hco ho o hlen hfl hLl
        by_cases h1 : x = 1
        · subst h1
          go_wp2_with fail
          refine (bstRefOpen HBS.out Hba.out.size (by simp) (by have := HFL.out; omega)).mono ?_
          rintro e w3 ⟨⟨v3, rfl⟩, h3, k3⟩
          have H3 := Lib.hid h3
          have B3 := Lib.hid (below_step Hba.out (Nat.le_refl _) k3 (fun _ h => h.1))
          have L3 := Lib.hid (show wr.heap.size < w3.heap.size from by have := k3.size; simp at this; omega)
          clear h3 k3
          go_wp2_with fail
          refine (bstOpen H3.out B3.out.size L3.out HT32.out).mono ?_
          rintro e w4 ⟨⟨v4, rfl⟩, h4, k4⟩
          have Q := Lib.hid (show Below w.heap.size w w4 ∧ SX w4 w.heap.size (.pointer (some ⟨b, 0, none⟩)) (.pointer (some ⟨rb, 0, none⟩)) (k + 1) from
            ⟨below_step B3.out (Nat.le_refl _) k4 (fun _ h => h.1), wr.heap.size, fs ++ [f], [], by rw [refL_open, List.length_append]; exact h4, fun g hg => by
              rcases List.mem_append.1 hg with h | h
              · have := HLEN.out g h; omega
              · simp at h; subst h; simp, by have := HFL.out; simp; omega, by rw [refL_open]; have := HLL.out; omega, fun g hg => by
              rcases List.mem_append.1 hg with h | h
              · exact HVI.out g h
              · simp at h; subst h; simp⟩)
          clear h4 k4
          go_wp2
          go_roundw
          case rel => exact ⟨k + 1, by omega, by go_num, Q⟩
          case measure => simp [intOf]; omega
        · have b1 : (x == 1) = false := by simp [h1]
          by_cases h2 : x = 2
          · subst h2
            clear h1
            by_cases hn0 : fs = []
            · subst hn0
              go_wp2_with fail
              refine (bstRefClose0 HBS.out).mono ?_
              rintro e w3 ⟨rfl, rfl⟩
              go_wp2_with fail
              refine (bstClose1 HBS.out).mono ?_
              rintro e w3 ⟨rfl, rfl⟩
              have Q := Lib.hid (show Below w.heap.size w (wr.alloc (.cells #[.int .i64 2, .int .i64 y, .int .i64 z] 41)) ∧ SX (wr.alloc (.cells #[.int .i64 2, .int .i64 y, .int .i64 z] 41)) w.heap.size (.pointer (some ⟨b, 0, none⟩)) (.pointer (some ⟨rb, 0, none⟩)) (k + 1) from
                ⟨Hba.out, wr.heap.size, [], f, HBS.out, fun g hg => by have := HLEN.out g hg; omega, by simp, by have := HLL.out; omega, HVI.out⟩)
              go_wp2
              go_roundw
              case rel => exact ⟨k + 1, by omega, by go_num, Q⟩
              case measure => simp [intOf]; omega
            · obtain ⟨fs', f', rfl⟩ : ∃ fs' f', fs = fs' ++ [f'] := ⟨fs.dropLast, fs.getLast hn0, (List.dropLast_concat_getLast hn0).symm⟩
              have hl1 : (fs' ++ [f']).length = fs'.length + 1 := by simp
              rw [hl1] at HBS
              have HFL' := Lib.hid (show fs'.length + 1 ≤ k from by rw [← hl1]; exact HFL.out)
              clear hn0 hl1
              go_wp2_with fail
              refine (bstRefClose HBS.out Hba.out.size (by simp) HL24.out (by have := HFL'.out; omega)).mono ?_
              rintro e w3 ⟨rfl, h3, k3⟩
              have hcl := refL_close (fs' ++ [f']) f
              rw [List.length_append, List.length_singleton] at hcl
              rw [hcl] at h3
              have H3 := Lib.hid h3
              have B3 := Lib.hid (below_step Hba.out (Nat.le_refl _) k3 (fun _ h => h.1))
              have L3 := Lib.hid (show wr.heap.size < w3.heap.size from by have := k3.size; simp at this; omega)
              clear h3 k3 hcl
              go_wp2_with fail
              refine (bstClose H3.out B3.out.size L3.out (by simp)).mono ?_
              rintro e w4 ⟨rfl, h4, k4⟩
              have Q := Lib.hid (show Below w.heap.size w w4 ∧ SX w4 w.heap.size (.pointer (some ⟨b, 0, none⟩)) (.pointer (some ⟨rb, 0, none⟩)) (k + 1) from
                ⟨below_step B3.out (Nat.le_refl _) k4 (fun _ h => h.1), wr.heap.size, fs', f', h4, fun g hg => by have := HLEN.out g (List.mem_append_left _ hg); omega, by have := HFL'.out; omega, by
                  have h5 := HLL.out
                  rw [refL_snoc, List.length_append] at h5
                  omega, fun g hg => HVI.out g (List.mem_append_left _ hg)⟩)
              clear h4 k4
              go_wp2
              go_roundw
              case rel => exact ⟨k + 1, by omega, by go_num, Q⟩
              case measure => simp [intOf]; omega
          · have b2 : (x == 2) = false := by simp [h2]
            by_cases h3 : x = 3
            · subst h3
              clear h1 h2
              obtain ⟨S, hS⟩ : ∃ S : ByteArray, S = ⟨(textB y).toArray⟩ := ⟨_, rfl⟩
              obtain ⟨T, hT⟩ : ∃ T : ByteArray, T = ⟨(textB z).toArray⟩ := ⟨_, rfl⟩
              have HSY : Hid (encS (textB y) = .string S) := Lib.hid (by rw [hS]; rfl)
              have HTZ : Hid (encT (tokOf z) = .agg #[.int .i64 z, .string T, .int .i64 0, .int .i64 0]) := Lib.hid (by rw [hT]; rfl)
              have HTXT : Hid (∀ wx, Calls Try.prog 28 #[.int .i64 y] wx fun e w' => e = .returned (.string S) ∧ Kept (fun _ => False) wx w') := Lib.hid fun wx => by rw [hS]; exact text_text y wx HIY.out.1 HIY.out.2
              have HPR : Hid (∀ wx, Calls Try.prog 29 #[.int .i64 z] wx fun e w' => e = .returned (.agg #[.int .i64 z, .string T, .int .i64 0, .int .i64 0]) ∧ Kept (fun _ => False) wx w') := Lib.hid fun wx => by rw [← HTZ.out]; exact pair_tok z wx HIZ.out.1 HIZ.out.2
              clear hS hT
              go_wp2_with fail
              refine (bstRefBind HBS.out Hba.out.size (by simp) y z HT24.out).mono ?_
              rintro e w3 (⟨ha, rfl, h3, k3⟩ | ⟨ha, rfl, h3, k3⟩)
              · rw [refL_any] at ha
                have HA := Lib.hid (of_decide_eq_true ha)
                have HOB := Lib.hid ((k3.block wr.heap.size (by simp) (fun h => h.2 rfl)).trans HCO.out)
                have cy := cell_of (i := 1) HOB.out rfl
                have cz := cell_of (i := 2) HOB.out rfl
                have H3 := Lib.hid h3
                have B3 := Lib.hid (below_step Hba.out (Nat.le_refl _) k3 (fun _ h => h.1))
                have L3 := Lib.hid (show wr.heap.size < w3.heap.size from by have := k3.size; simp at this; omega)
                simp only [List.getElem_toArray, List.getElem_cons_succ, List.getElem_cons_zero] at cy cz
                have HBD : Hid (∀ wx, Kept (fun _ => False) w3 wx → Calls Try.prog 27 #[.pointer (some ⟨b, 0, none⟩), .string S, .agg #[.int .i64 z, .string T, .int .i64 0, .int .i64 0]] wx fun e w' => e = .returned (.int .i64 5) ∧ Hid (Below w.heap.size w w' ∧ BST w' w.heap.size wr.heap.size (.pointer (some ⟨b, 0, none⟩)) (.pointer (some ⟨rb, 0, none⟩)) (fs ++ [f]) fs.length (refL (fs ++ [f])))) := Lib.hid fun wx hk => by
                  have b4 := below_step B3.out (Nat.le_refl _) hk (fun _ h => h.elim)
                  have hc := bstBind (H3.out.kept hk) b4.size (by have := L3.out; have := hk.size; omega) y z HT16.out
                  rw [HSY.out, HTZ.out] at hc
                  refine hc.mono ?_
                  rintro e w4 (⟨_, rfl, h4, k4⟩ | ⟨hno, _⟩)
                  · exact ⟨rfl, Lib.hid ⟨below_step b4 (Nat.le_refl _) k4 (fun _ h => h.1), h4⟩⟩
                  · exact absurd HA.out hno
                have HC : Hid (Kept (fun _ => False) w3 w3.drew) := Lib.hid ((Kept.refl (fun _ => False) w3).drewN 1)
                clear ha h3 k3
                go_wp2_with fail
                go_region_with (first
                  | (go_at_call 28
                     refine (HTXT.out _).mono ?_
                     rintro e w4 ⟨rfl, k4⟩
                     have HC := Lib.hid (HC.out.trans' k4 (fun _ _ h => h))
                     have cy1 := HC.out.cell cy id
                     have cz1 := HC.out.cell cz id
                     clear k4)
                  | (go_at_call 29
                     refine (HPR.out _).mono ?_
                     rintro e w4 ⟨rfl, k4⟩
                     have HC := Lib.hid (HC.out.trans' k4 (fun _ _ h => h))
                     have cy1 := HC.out.cell cy id
                     have cz1 := HC.out.cell cz id
                     clear k4)
                  | (go_at_call 27
                     refine (HBD.out _ HC.out).mono ?_
                     rintro e w5 ⟨rfl, H5⟩))
                all_goals
                  have Q := Lib.hid (show Below w.heap.size w w5 ∧ SX w5 w.heap.size (.pointer (some ⟨b, 0, none⟩)) (.pointer (some ⟨rb, 0, none⟩)) (k + 1) from
                    ⟨H5.out.1, wr.heap.size, fs, f, H5.out.2, fun g hg => by have := HLEN.out g hg; omega, by have := HFL.out; omega, by have := HLL.out; omega, HVI.out⟩)
                  clear H5
                  go_wp2
                  go_roundw
                  case rel => exact ⟨k + 1, by omega, by go_num, Q⟩
                  case measure => simp [intOf]; omega
              · rw [refL_any] at ha
                have HA := Lib.hid (of_decide_eq_false ha)
                have HOB := Lib.hid ((k3.block wr.heap.size (by simp) (fun h => h.2 rfl)).trans HCO.out)
                have cy := cell_of (i := 1) HOB.out rfl
                have cz := cell_of (i := 2) HOB.out rfl
                have H3 := Lib.hid h3
                have B3 := Lib.hid (below_step Hba.out (Nat.le_refl _) k3 (fun _ h => h.1))
                have L3 := Lib.hid (show wr.heap.size < w3.heap.size from by have := k3.size; simp at this; omega)
                simp only [List.getElem_toArray, List.getElem_cons_succ, List.getElem_cons_zero] at cy cz
                have HBD : Hid (∀ wx, Kept (fun _ => False) w3 wx → Calls Try.prog 27 #[.pointer (some ⟨b, 0, none⟩), .string S, .agg #[.int .i64 z, .string T, .int .i64 0, .int .i64 0]] wx fun e w' => e = .returned (.int .i64 0) ∧ Hid (Below w.heap.size w w' ∧ BST w' w.heap.size wr.heap.size (.pointer (some ⟨b, 0, none⟩)) (.pointer (some ⟨rb, 0, none⟩)) (fs ++ [f ++ [(y, z)]]) fs.length (refL (fs ++ [f]) ++ [(fs.length, y, z)]))) := Lib.hid fun wx hk => by
                  have b4 := below_step B3.out (Nat.le_refl _) hk (fun _ h => h.elim)
                  have hc := bstBind (H3.out.kept hk) b4.size (by have := L3.out; have := hk.size; omega) y z HT16.out
                  rw [HSY.out, HTZ.out] at hc
                  refine hc.mono ?_
                  rintro e w4 (⟨hyes, _⟩ | ⟨_, rfl, h4, k4⟩)
                  · exact absurd hyes HA.out
                  · exact ⟨rfl, Lib.hid ⟨below_step b4 (Nat.le_refl _) k4 (fun _ h => h.1), h4⟩⟩
                have HC : Hid (Kept (fun _ => False) w3 w3.drew) := Lib.hid ((Kept.refl (fun _ => False) w3).drewN 1)
                clear ha h3 k3
                go_wp2_with fail
                go_region_with (first
                  | (go_at_call 28
                     refine (HTXT.out _).mono ?_
                     rintro e w4 ⟨rfl, k4⟩
                     have HC := Lib.hid (HC.out.trans' k4 (fun _ _ h => h))
                     have cy1 := HC.out.cell cy id
                     have cz1 := HC.out.cell cz id
                     clear k4)
                  | (go_at_call 29
                     refine (HPR.out _).mono ?_
                     rintro e w4 ⟨rfl, k4⟩
                     have HC := Lib.hid (HC.out.trans' k4 (fun _ _ h => h))
                     have cy1 := HC.out.cell cy id
                     have cz1 := HC.out.cell cz id
                     clear k4)
                  | (go_at_call 27
                     refine (HBD.out _ HC.out).mono ?_
                     rintro e w5 ⟨rfl, H5⟩))
                all_goals
                  have Q := Lib.hid (show Below w.heap.size w w5 ∧ SX w5 w.heap.size (.pointer (some ⟨b, 0, none⟩)) (.pointer (some ⟨rb, 0, none⟩)) (k + 1) from
                    ⟨H5.out.1, wr.heap.size, fs, f ++ [(y, z)], by rw [refL_bind]; exact H5.out.2, fun g hg => by
                      rcases List.mem_append.1 hg with h | h
                      · have := HLEN.out g (List.mem_append_left _ h); omega
                      · simp only [List.mem_singleton] at h
                        subst h
                        have := HLEN.out f (by simp)
                        simp
                        omega, by have := HFL.out; omega, by rw [refL_bind]; have := HLL.out; simp; omega, fun g hg => by
                      rcases List.mem_append.1 hg with h | h
                      · exact HVI.out g (List.mem_append_left _ h)
                      · simp only [List.mem_singleton] at h
                        subst h
                        intro it hit
                        rcases List.mem_append.1 hit with hit | hit
                        · exact HVI.out f (by simp) it hit
                        · simp only [List.mem_singleton] at hit
                          subst hit
                          exact ⟨HIY.out, HIZ.out⟩⟩)
                  clear H5
                  go_wp2
                  go_roundw
                  case rel => exact ⟨k + 1, by omega, by go_num, Q⟩
                  case measure => simp [intOf]; omega
            · have b3 : (x == 3) = false := by simp [h3]
              by_cases h4 : x = 4
              · subst h4
                clear h1 h2 h3
                go_wp2_with fail
                refine (bstRefFind HBS.out y).mono ?_
                rintro e w3 ⟨q, rfl, hq, h3, k3⟩
                have HQ := Lib.hid hq.find
                have HOB := Lib.hid ((k3.block wr.heap.size (by simp) id).trans HCO.out)
                have cy := cell_of (i := 1) HOB.out rfl
                have H3 := Lib.hid h3
                have B3 := Lib.hid (below_step Hba.out (Nat.le_refl _) k3 (fun _ h => h.elim))
                simp only [List.getElem_toArray, List.getElem_cons_succ, List.getElem_cons_zero] at cy
                clear hq h3 k3
                have HQR : Hid (q.2.2 = 0 → InR q.1) := Lib.hid fun h0 => by
                  rcases HQ.out with ⟨rfl, _⟩ | ⟨i, hi, x, rfl, hm, _⟩
                  · cases h0
                  · exact (HVI.out _ (List.getElem_mem hi) _ hm).2
                obtain ⟨q0, q1, q2⟩ := q
                dsimp only at HQR ⊢
                go_wp2_with fail
                refine (text_text y w3 HIY.out.1 HIY.out.2).mono ?_
                rintro e w4 ⟨rfl, k4⟩
                have H4 := Lib.hid (H3.out.kept k4)
                have B4 := Lib.hid (below_step B3.out (Nat.le_refl _) k4 (fun _ h => h.elim))
                clear k4
                go_wp2_with fail
                refine (bstFind H4.out (by simp) y).mono ?_
                rintro e w5 ⟨q', tv, rfl, htv, hq', h5, k5⟩
                obtain rfl : q' = (q0, q1, q2) := hq'.unique h5.nodup HQ.out
                have H5 := Lib.hid h5
                have B5 := Lib.hid (B4.out.trans (k5.mono B4.out.size))
                dsimp only
                clear hq' h5 k5
                rcases htv with ⟨h0, rfl⟩ | ⟨h0, rfl⟩
                · simp only at h0
                  subst h0
                  have HI0 := Lib.hid (HQR.out rfl)
                  obtain ⟨T, hT⟩ : ∃ T : ByteArray, T = ⟨(textB q0).toArray⟩ := ⟨_, rfl⟩
                  have hTZ : encT (tokOf q0) = .agg #[.int .i64 q0, .string T, .int .i64 0, .int .i64 0] := by rw [hT]; rfl
                  have hcmp := fun wx => run_eql_tok wx (tokOf q0) (tokOf q0)
                  simp only [decide_true] at hcmp
                  have HPR : Hid (∀ wx, Calls Try.prog 29 #[.int .i64 q0] wx fun e w' => e = .returned (.agg #[.int .i64 q0, .string T, .int .i64 0, .int .i64 0]) ∧ Kept (fun _ => False) wx w') := Lib.hid fun wx => by rw [← hTZ]; exact pair_tok q0 wx HI0.out.1 HI0.out.2
                  rw [hTZ] at hcmp ⊢
                  clear hT hTZ
                  have ha := heap_alloc (heap_alloc_new w5 (.cells #[.int .i64 q0, .string T, .int .i64 0, .int .i64 0] 48)) (.cells #[.int .i64 0, .string ⟨#[]⟩, .int .i64 0, .int .i64 0] 48)
                  have hz := heap_alloc_new (w5.alloc (.cells #[.int .i64 q0, .string T, .int .i64 0, .int .i64 0] 48)) (.cells #[.int .i64 0, .string ⟨#[]⟩, .int .i64 0, .int .i64 0] 48)
                  rw [World.size_alloc] at hz
                  have HZA := Lib.hid (And.intro ha hz)
                  have KA := Lib.hid (((Kept.refl (fun _ => False) w5).alloc (.cells #[.int .i64 q0, .string T, .int .i64 0, .int .i64 0] 48)).alloc (.cells #[.int .i64 0, .string ⟨#[]⟩, .int .i64 0, .int .i64 0] 48))
                  clear ha hz
                  go_wp2_with fail
                  refine (HPR.out _).mono ?_
                  rintro e w6 ⟨rfl, k6⟩
                  have g1 := (k6.block _ (heap_lt HZA.out.1) id).trans HZA.out.1
                  have g2 := (k6.block _ (heap_lt HZA.out.2) id).trans HZA.out.2
                  have K6 := Lib.hid (KA.out.trans' k6 (fun _ _ h => h))
                  have m10 : w6.cell? ⟨w5.heap.size, 0, none⟩ = some (.int .i64 q0) := cell_of g1 rfl
                  have m11 : w6.cell? ⟨w5.heap.size, 1, none⟩ = some (.string T) := cell_of g1 rfl
                  have m12 : w6.cell? ⟨w5.heap.size, 2, none⟩ = some (.int .i64 0) := cell_of g1 rfl
                  have m13 : w6.cell? ⟨w5.heap.size, 3, none⟩ = some (.int .i64 0) := cell_of g1 rfl
                  have m20 : w6.cell? ⟨w5.heap.size + 1, 0, none⟩ = some (.int .i64 0) := cell_of g2 rfl
                  have m21 : w6.cell? ⟨w5.heap.size + 1, 1, none⟩ = some (.string ⟨#[]⟩) := cell_of g2 rfl
                  have m22 : w6.cell? ⟨w5.heap.size + 1, 2, none⟩ = some (.int .i64 0) := cell_of g2 rfl
                  have m23 : w6.cell? ⟨w5.heap.size + 1, 3, none⟩ = some (.int .i64 0) := cell_of g2 rfl
                  have z20 : w6.frozen? ⟨w5.heap.size + 1, 0, none⟩ = false := frozen_of g2
                  have z21 : w6.frozen? ⟨w5.heap.size + 1, 1, none⟩ = false := frozen_of g2
                  have z22 : w6.frozen? ⟨w5.heap.size + 1, 2, none⟩ = false := frozen_of g2
                  have z23 : w6.frozen? ⟨w5.heap.size + 1, 3, none⟩ = false := frozen_of g2
                  have hnb : ∀ j : Nat, ¬ ((⟨w5.heap.size + 1, j, none⟩ : Addr).block < w5.heap.size) := fun j => by show ¬ (w5.heap.size + 1 < w5.heap.size); omega
                  have K7 := Lib.hid ((((K6.out.setCell (p := ⟨w5.heap.size + 1, 0, none⟩) (fun h => absurd h (hnb 0)) (.int .i64 q0)).setCell (p := ⟨w5.heap.size + 1, 1, none⟩) (fun h => absurd h (hnb 1)) (.string T)).setCell (p := ⟨w5.heap.size + 1, 2, none⟩) (fun h => absurd h (hnb 2)) (.int .i64 0)).setCell (p := ⟨w5.heap.size + 1, 3, none⟩) (fun h => absurd h (hnb 3)) (.int .i64 0))
                  have HQX : Hid (∀ wx, Kept (fun _ => False) w5 wx → Below w.heap.size w wx ∧ SX wx w.heap.size (.pointer (some ⟨b, 0, none⟩)) (.pointer (some ⟨rb, 0, none⟩)) (k + 1)) := Lib.hid fun wx hk =>
                    ⟨below_step B5.out (Nat.le_refl _) hk (fun _ h => h.elim), wr.heap.size, fs, f, H5.out.kept hk, fun g hg => by have := HLEN.out g hg; omega, by have := HFL.out; omega, by have := HLL.out; omega, HVI.out⟩
                  have Q := Lib.hid (HQX.out _ K7.out)
                  clear g1 g2 k6 hnb
                  go_wp2
                  go_roundw
                  case rel => exact ⟨k + 1, by omega, by go_num, Q⟩
                  case measure => simp [intOf]; omega
                · simp only [Prod.mk.injEq] at h0
                  obtain ⟨rfl, rfl, rfl⟩ := h0
                  unfold zTok
                  have hcmp := fun wx => run_eql_tok wx (0, [], 0, 0) (0, [], 0, 0)
                  simp only [decide_true] at hcmp
                  unfold encT at hcmp
                  dsimp only at hcmp
                  have Q := Lib.hid (show Below w.heap.size w ((w5.alloc (.cells #[.int .i64 0, .string ⟨#[]⟩, .int .i64 0, .int .i64 0] 48)).alloc (.cells #[.int .i64 0, .string ⟨#[]⟩, .int .i64 0, .int .i64 0] 48)) ∧ SX ((w5.alloc (.cells #[.int .i64 0, .string ⟨#[]⟩, .int .i64 0, .int .i64 0] 48)).alloc (.cells #[.int .i64 0, .string ⟨#[]⟩, .int .i64 0, .int .i64 0] 48)) w.heap.size (.pointer (some ⟨b, 0, none⟩)) (.pointer (some ⟨rb, 0, none⟩)) (k + 1) from
                    ⟨below_step B5.out (Nat.le_refl _) (((Kept.refl (fun _ => False) w5).alloc _).alloc _) (fun _ h => h.elim), wr.heap.size, fs, f, H5.out.kept (((Kept.refl (fun _ => False) w5).alloc _).alloc _), fun g hg => by have := HLEN.out g hg; omega, by have := HFL.out; omega, by have := HLL.out; omega, HVI.out⟩)
                  go_wp2
                  go_roundw
                  case rel => exact ⟨k + 1, by omega, by go_num, Q⟩
                  case measure => simp [intOf]; omega
              · have b4 : (x == 4) = false := by simp [h4]
                clear h1 h2 h3 h4
                go_wp2_with fail
                refine (bstLevel HBS.out (by simp)).mono ?_
                rintro e w3 ⟨rfl, rfl⟩
                have hlv : ((fs ++ [f]).length - 1 : Nat) = fs.length := by simp
                rw [hlv]
                clear hlv
                go_wp2_with fail
                refine (bstRefLevel HBS.out).mono ?_
                rintro e w3 ⟨rfl, rfl⟩
                go_wp2_with fail
                refine (bstRefHere HBS.out (by have := HLL.out; omega)).mono ?_
                rintro e w3 ⟨lv, rfl, hf3, h3⟩
                rw [refL_here] at hf3
                have H3 := Lib.hid h3
                have O3 := Lib.hid hf3.1
                have B3 := Lib.hid (below_step Hba.out (Nat.le_refl _) hf3.2.1 (fun _ h => h.elim))
                clear hf3 h3
                go_wp2_with fail
                refine (textsS _ (f.map (·.1)) w3 O3.out.rd (fun x hx => by
                  obtain ⟨it, hit, rfl⟩ := List.mem_map.1 hx
                  exact (HVI.out f (by simp) it hit).1) (by rw [List.length_map]; have := HLEN.out f (by simp); omega)).mono ?_
                rintro e w4 ⟨tv, rfl, hf4⟩
                have H4 := Lib.hid (H3.out.kept hf4.2.1)
                have T4 := Lib.hid hf4.1
                have B4 := Lib.hid (below_step B3.out (Nat.le_refl _) hf4.2.1 (fun _ h => h.elim))
                clear hf4
                go_wp2_with fail
                refine (bstHere H4.out (fits_of (by have := HLEN.out f (by simp); omega) (by decide))).mono ?_
                rintro e w5 ⟨mv, rfl, hf5, h5⟩
                have H5 := Lib.hid h5
                have O5 := Lib.hid hf5.1
                have T5 := Lib.hid (T4.out.frame hf5.2.1 (fun _ _ => id))
                have B5 := Lib.hid (below_step B4.out (Nat.le_refl _) hf5.2.1 (fun _ h => h.elim))
                clear hf5 h5
                have hs := sameS tv mv ((f.map (·.1)).map textB) ((f.map (·.1)).map textB) w5 (by have := T5.out.rd; simpa using this) (by have := O5.out.rd; simpa using this)
                rw [decide_eq_true rfl] at hs
                have HS := Lib.hid hs
                clear hs
                go_wp2_with fail
                refine HS.out.mono ?_
                rintro e w6 ⟨rfl, k6⟩
                have Q := Lib.hid (show Below w.heap.size w w6 ∧ SX w6 w.heap.size (.pointer (some ⟨b, 0, none⟩)) (.pointer (some ⟨rb, 0, none⟩)) (k + 1) from
                  ⟨below_step B5.out (Nat.le_refl _) k6 (fun _ h => h.elim), wr.heap.size, fs, f, H5.out.kept k6, fun g hg => by have := HLEN.out g hg; omega, by have := HFL.out; omega, by have := HLL.out; omega, HVI.out⟩)
                clear k6
                go_wp2
                go_roundw
                case rel => exact ⟨k + 1, by omega, by go_num, Q⟩
                case measure => simp [intOf]; omega
    · go_wp2_with fail
      go_ret
      exact ⟨rfl, hb⟩

set_option maxRecDepth 100000 in
theorem scopeTexts_calls : LawCalls Try.prog 5 Try.f5 := by
  intro H enc W args ds ps hval hA hsz
  rw [Try.params5] at hA hval hsz
  obtain ⟨v0, d0, rfl, rfl, h0⟩ := trodAll_one hA
  obtain ⟨base, hok⟩ := hval 0 _ v0 rfl rfl
  obtain ⟨fs, hu, hs, hfs⟩ := opFields4
  obtain ⟨xs, hx, hin, _, hr⟩ := open_rows_arg Try.underlying35 hu (by rw [hs]; kernel_rfl) hfs hok h0
  rw [hs] at hx
  have hb : Try.prog.bytesOf 41 = 24 := by kernel_rfl
  have := hr hsz (j := 0) rfl rfl
  rw [hb] at this
  exact scopeTexts_walk v0 xs W hx (fun r h => (hin r h).2) this

end Go.Proofs.Ytllcklddfcclfaa
