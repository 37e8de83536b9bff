/- The walk of ScopeInts. -/
import Derived.Test.YtllcklddfcclfaaArgsR
import Derived.Test.YtllcklddfcclfaaOpF4
import Derived.Test.YtllcklddfcclfaaWakes4
import Derived.Test.YtllcklddfcclfaaScopeBoth
namespace Go.Proofs.Ytllcklddfcclfaa
open Go.ChangeShapes Go.WideShapes Go.ChangeAt Go.RowKit
set_option linter.unusedVariables false
set_option linter.unusedSimpArgs false

/-- What holds behind k calls. -/
def SI (w : World) (B : Nat) (p r : Value) (k : Nat) : Prop :=
  ∃ (ob : Nat) (fs : List (List (Int × Int))) (f : List (Int × Int)), BSc w B ob p r (fs ++ [f]) fs.length (refL (fs ++ [f])) ∧ (∀ g ∈ fs ++ [f], g.length ≤ k) ∧ fs.length ≤ k ∧ (refL (fs ++ [f])).length ≤ k

set_option maxRecDepth 100000 in
set_option maxHeartbeats 4000000 in
theorem scopeInts_walk (v : Value) (xs : List (List Int)) (w : World) (hx : RdRows w 3 v xs) (hreach : xs.length * 24 ≤ 140737488351232) :
    Calls Try.prog 4 #[v] w fun e w' => e = .returned (.bool true) ∧ Below w.heap.size w w' := by
  obtain ⟨a, c, rfl, ka1, ka2, ka3⟩ := hx.shape
  have HX := Lib.hid hx
  have KA := Lib.hid ka3
  clear hx ka3
  unfold maxLen at ka2
  go_enter Try.func4, Try.ntmps4
  go_wp2_with fail
  refine (wakes_any w).mono ?_
  rintro e w1 ⟨rfl, hb1⟩
  go_wp2_with fail
  refine (scopeNewII w1).mono ?_
  rintro e w2 ⟨b, mb, F0, rfl, hI0, hk0, hF0⟩
  obtain ⟨rb, hrb⟩ : ∃ rb, rb = w2.heap.size := ⟨_, rfl⟩
  have hb2 := below_step hb1 (Nat.le_refl _) hk0 (fun _ h => h.elim)
  have HS0 := Lib.hid (show SI (w2.alloc (.cells #[.int .i64 0, .slice none 0 0] 39)) w.heap.size (.pointer (some ⟨b, 0, none⟩)) (.pointer (some ⟨w2.heap.size, 0, none⟩)) 0 from
    ⟨w2.heap.size + 1, [], [], ⟨F0, fun x => x = w2.heap.size, _, hI0.frame ((Kept.refl (fun _ => False) w2).alloc _) (fun _ _ => id), rfl, RSc.made w2, fun x h1 h2 => by have := hI0.lt h1; omega, fun x h => ⟨Nat.le_trans hb1.size (hF0 x h), by have := hI0.lt h; omega⟩, fun x h => ⟨by have := hb2.size; omega, by omega⟩⟩, by simp, Nat.le_refl _, by simp [refL]⟩)
  have HL0 := Lib.hid (hb2.alloc hb2.size (.cells #[.int .i64 0, .slice none 0 0] 39))
  clear hI0 hF0 hk0 hb1 hb2
  go_wp2_with fail
  rw [← hrb] at HS0 ⊢
  clear hrb
  go_loopw [5] (fun i wr => ∃ k : Nat, k ≤ xs.length ∧ i = .int .i64 k ∧ Hid (Below w.heap.size w wr ∧ SI wr w.heap.size (.pointer (some ⟨b, 0, none⟩)) (.pointer (some ⟨rb, 0, none⟩)) k)) (fun i _ => xs.length - (intOf i).toNat)
  case atStart => exact ⟨0, Nat.zero_le _, rfl, Lib.hid ⟨HL0.out, HS0.out⟩⟩
  case round =>
    obtain ⟨k, hk, rfl, hH⟩ := hrel
    obtain ⟨hb, ob0, fs, f, hBS, hlen, hfl, hLl⟩ := hH.out
    by_cases hlt : k < xs.length
    · cases a with
      | none => exact absurd (KA.out rfl).1 (by omega)
      | some ad =>
        have cx := (HX.out.later hb).cell hlt (j := 0) (by omega)
        have cy := (HX.out.later hb).cell' hlt (j := 1) (by omega) (by omega)
        have cz := (HX.out.later hb).cell' hlt (j := 2) (by omega) (by omega)
        simp only [Nat.add_zero] at cx
        generalize xs[k].getD 0 0 = x at cx
        generalize xs[k].getD 1 0 = y at cy
        generalize xs[k].getD 2 0 = z at cz
        obtain ⟨o, ho⟩ : ∃ o, o = Obj.cells #[.int .i64 x, .int .i64 y, .int .i64 z] 41 := ⟨_, rfl⟩
        have hba : Below w.heap.size w (wr.alloc o) := hb.alloc hb.size o
        have hco : (wr.alloc o).heap[wr.heap.size]? = some o := by show (wr.heap.push _)[wr.heap.size]? = _; simp
        have HBS := Lib.hid (hBS.out (o := wr.heap.size) ((Kept.refl (fun _ => False) wr).alloc o) (Nat.le_refl _))
        have Hba := Lib.hid hba
        have HCO := Lib.hid hco
        rw [ho] at HBS Hba HCO
        have HLEN := Lib.hid hlen
        have HT24 : Hid (Fits ((refL (fs ++ [f])).length + 1) 24) := Lib.hid (fits_of (by omega) (by decide))
        have HT8 : Hid (Fits (f.length + 1) 8) := Lib.hid (fits_of (by have := hlen f (by simp); omega) (by decide))
        have HT32 : Hid (Fits ((fs ++ [f]).length + 1) 32) := Lib.hid (fits_frames_le hreach (by simp; omega))
        have HL24 : Hid ((refL (fs ++ [f])).length * 24 ≤ 140737488355328) := Lib.hid (by omega)
        have HFL := Lib.hid hfl
        have HLL := Lib.hid hLl
        clear hBS hb hH hba hco ho o hlen hfl hLl
        by_cases h1 : x = 1
        · subst h1
          go_wp2_with fail
          refine (bscRefOpen HBS.out Hba.out.size (by simp) (by have := HFL.out; omega)).mono ?_
          rintro e w3 ⟨⟨v3, rfl⟩, h3, k3⟩
          have H3 := Lib.hid h3
          have B3 := Lib.hid (below_step Hba.out (Nat.le_refl _) k3 (fun _ h => h.1))
          have L3 := Lib.hid (show wr.heap.size < w3.heap.size from by have := k3.size; simp at this; omega)
          clear h3 k3
          go_wp2_with fail
          refine (bscOpen H3.out B3.out.size L3.out HT32.out).mono ?_
          rintro e w4 ⟨⟨v4, rfl⟩, h4, k4⟩
          have Q := Lib.hid (show Below w.heap.size w w4 ∧ SI w4 w.heap.size (.pointer (some ⟨b, 0, none⟩)) (.pointer (some ⟨rb, 0, none⟩)) (k + 1) from
            ⟨below_step B3.out (Nat.le_refl _) k4 (fun _ h => h.1), wr.heap.size, fs ++ [f], [], by rw [refL_open, List.length_append]; exact h4, fun g hg => by
              rcases List.mem_append.1 hg with h | h
              · have := HLEN.out g h; omega
              · simp at h; subst h; simp, by have := HFL.out; simp; omega, by rw [refL_open]; have := HLL.out; omega⟩)
          clear h4 k4
          go_wp2
          go_roundw
          case rel => exact ⟨k + 1, by omega, by go_num, Q⟩
          case measure => simp [intOf]; omega
        · have b1 : (x == 1) = false := by simp [h1]
          by_cases h2 : x = 2
          · subst h2
            clear h1
            by_cases hn0 : fs = []
            · subst hn0
              go_wp2_with fail
              refine (bscRefClose0 HBS.out).mono ?_
              rintro e w3 ⟨rfl, rfl⟩
              go_wp2_with fail
              refine (bscClose1 HBS.out).mono ?_
              rintro e w3 ⟨rfl, rfl⟩
              have Q := Lib.hid (show Below w.heap.size w (wr.alloc (.cells #[.int .i64 2, .int .i64 y, .int .i64 z] 41)) ∧ SI (wr.alloc (.cells #[.int .i64 2, .int .i64 y, .int .i64 z] 41)) w.heap.size (.pointer (some ⟨b, 0, none⟩)) (.pointer (some ⟨rb, 0, none⟩)) (k + 1) from
                ⟨Hba.out, wr.heap.size, [], f, HBS.out, fun g hg => by have := HLEN.out g hg; omega, by simp, by have := HLL.out; omega⟩)
              go_wp2
              go_roundw
              case rel => exact ⟨k + 1, by omega, by go_num, Q⟩
              case measure => simp [intOf]; omega
            · obtain ⟨fs', f', rfl⟩ : ∃ fs' f', fs = fs' ++ [f'] := ⟨fs.dropLast, fs.getLast hn0, (List.dropLast_concat_getLast hn0).symm⟩
              have hl1 : (fs' ++ [f']).length = fs'.length + 1 := by simp
              rw [hl1] at HBS
              have HFL' := Lib.hid (show fs'.length + 1 ≤ k from by rw [← hl1]; exact HFL.out)
              clear hn0 hl1
              go_wp2_with fail
              refine (bscRefClose HBS.out Hba.out.size (by simp) HL24.out (by have := HFL'.out; omega)).mono ?_
              rintro e w3 ⟨rfl, h3, k3⟩
              have hcl := refL_close (fs' ++ [f']) f
              rw [List.length_append, List.length_singleton] at hcl
              rw [hcl] at h3
              have H3 := Lib.hid h3
              have B3 := Lib.hid (below_step Hba.out (Nat.le_refl _) k3 (fun _ h => h.1))
              have L3 := Lib.hid (show wr.heap.size < w3.heap.size from by have := k3.size; simp at this; omega)
              clear h3 k3 hcl
              go_wp2_with fail
              refine (bscClose H3.out B3.out.size L3.out (by simp)).mono ?_
              rintro e w4 ⟨rfl, h4, k4⟩
              have Q := Lib.hid (show Below w.heap.size w w4 ∧ SI w4 w.heap.size (.pointer (some ⟨b, 0, none⟩)) (.pointer (some ⟨rb, 0, none⟩)) (k + 1) from
                ⟨below_step B3.out (Nat.le_refl _) k4 (fun _ h => h.1), wr.heap.size, fs', f', h4, fun g hg => by have := HLEN.out g (List.mem_append_left _ hg); omega, by have := HFL'.out; omega, by
                  have h5 := HLL.out
                  rw [refL_snoc, List.length_append] at h5
                  omega⟩)
              clear h4 k4
              go_wp2
              go_roundw
              case rel => exact ⟨k + 1, by omega, by go_num, Q⟩
              case measure => simp [intOf]; omega
          · have b2 : (x == 2) = false := by simp [h2]
            by_cases h3 : x = 3
            · subst h3
              clear h1 h2
              go_wp2_with fail
              refine (bscRefBind HBS.out Hba.out.size (by simp) y z HT24.out).mono ?_
              rintro e w3 (⟨ha, rfl, h3, k3⟩ | ⟨ha, rfl, h3, k3⟩)
              · rw [refL_any] at ha
                have HA := Lib.hid (of_decide_eq_true ha)
                have HOB := Lib.hid ((k3.block wr.heap.size (by simp) (fun h => h.2 rfl)).trans HCO.out)
                have cy := cell_of (i := 1) HOB.out rfl
                have cz := cell_of (i := 2) HOB.out rfl
                have H3 := Lib.hid h3
                have B3 := Lib.hid (below_step Hba.out (Nat.le_refl _) k3 (fun _ h => h.1))
                have L3 := Lib.hid (show wr.heap.size < w3.heap.size from by have := k3.size; simp at this; omega)
                simp only [List.getElem_toArray, List.getElem_cons_succ, List.getElem_cons_zero] at cy cz
                clear ha h3 k3
                go_wp2_with fail
                refine (bscBind H3.out B3.out.size L3.out y z HT8.out).mono ?_
                rintro e w4 (⟨_, rfl, h4, k4⟩ | ⟨hno, _⟩)
                case inr => exact absurd HA.out hno
                have Q := Lib.hid (show Below w.heap.size w w4 ∧ SI w4 w.heap.size (.pointer (some ⟨b, 0, none⟩)) (.pointer (some ⟨rb, 0, none⟩)) (k + 1) from
                  ⟨below_step B3.out (Nat.le_refl _) k4 (fun _ h => h.1), wr.heap.size, fs, f, h4, fun g hg => by have := HLEN.out g hg; omega, by have := HFL.out; omega, by have := HLL.out; omega⟩)
                clear h4 k4
                go_wp2
                go_roundw
                case rel => exact ⟨k + 1, by omega, by go_num, Q⟩
                case measure => simp [intOf]; omega
              · rw [refL_any] at ha
                have HA := Lib.hid (of_decide_eq_false ha)
                have HOB := Lib.hid ((k3.block wr.heap.size (by simp) (fun h => h.2 rfl)).trans HCO.out)
                have cy := cell_of (i := 1) HOB.out rfl
                have cz := cell_of (i := 2) HOB.out rfl
                have H3 := Lib.hid h3
                have B3 := Lib.hid (below_step Hba.out (Nat.le_refl _) k3 (fun _ h => h.1))
                have L3 := Lib.hid (show wr.heap.size < w3.heap.size from by have := k3.size; simp at this; omega)
                simp only [List.getElem_toArray, List.getElem_cons_succ, List.getElem_cons_zero] at cy cz
                clear ha h3 k3
                go_wp2_with fail
                refine (bscBind H3.out B3.out.size L3.out y z HT8.out).mono ?_
                rintro e w4 (⟨hyes, _⟩ | ⟨_, rfl, h4, k4⟩)
                · exact absurd hyes HA.out
                have Q := Lib.hid (show Below w.heap.size w w4 ∧ SI w4 w.heap.size (.pointer (some ⟨b, 0, none⟩)) (.pointer (some ⟨rb, 0, none⟩)) (k + 1) from
                  ⟨below_step B3.out (Nat.le_refl _) k4 (fun _ h => h.1), wr.heap.size, fs, f ++ [(y, z)], by rw [refL_bind]; exact h4, fun g hg => by
                    rcases List.mem_append.1 hg with h | h
                    · have := HLEN.out g (List.mem_append_left _ h); omega
                    · simp only [List.mem_singleton] at h
                      subst h
                      have := HLEN.out f (by simp)
                      simp
                      omega, by have := HFL.out; omega, by rw [refL_bind]; have := HLL.out; simp; omega⟩)
                clear h4 k4
                go_wp2
                go_roundw
                case rel => exact ⟨k + 1, by omega, by go_num, Q⟩
                case measure => simp [intOf]; omega
            · have b3 : (x == 3) = false := by simp [h3]
              by_cases h4 : x = 4
              · subst h4
                clear h1 h2 h3
                go_wp2_with fail
                refine (bscRefFind HBS.out y).mono ?_
                rintro e w3 ⟨q, rfl, hq, h3, k3⟩
                have HQ := Lib.hid hq.find
                have HOB := Lib.hid ((k3.block wr.heap.size (by simp) id).trans HCO.out)
                have cy := cell_of (i := 1) HOB.out rfl
                have H3 := Lib.hid h3
                have B3 := Lib.hid (below_step Hba.out (Nat.le_refl _) k3 (fun _ h => h.elim))
                simp only [List.getElem_toArray, List.getElem_cons_succ, List.getElem_cons_zero] at cy
                clear hq h3 k3
                obtain ⟨q0, q1, q2⟩ := q
                dsimp only
                go_wp2_with fail
                refine (bscFind H3.out (by simp) y).mono ?_
                rintro e w4 ⟨q', rfl, hq', h4, k4⟩
                obtain rfl : q' = (q0, q1, q2) := hq'.unique h4.nodup HQ.out
                have Q := Lib.hid (show Below w.heap.size w w4 ∧ SI w4 w.heap.size (.pointer (some ⟨b, 0, none⟩)) (.pointer (some ⟨rb, 0, none⟩)) (k + 1) from
                  ⟨B3.out.trans (k4.mono B3.out.size), wr.heap.size, fs, f, h4, fun g hg => by have := HLEN.out g hg; omega, by have := HFL.out; omega, by have := HLL.out; omega⟩)
                dsimp only
                clear hq' h4 k4
                go_wp2
                go_roundw
                case rel => exact ⟨k + 1, by omega, by go_num, Q⟩
                case measure => simp [intOf]; omega
              · have b4 : (x == 4) = false := by simp [h4]
                clear h1 h2 h3 h4
                go_wp2_with fail
                refine (bscLevel HBS.out (by simp)).mono ?_
                rintro e w3 ⟨rfl, rfl⟩
                have hlv : ((fs ++ [f]).length - 1 : Nat) = fs.length := by simp
                rw [hlv]
                clear hlv
                go_wp2_with fail
                refine (bscRefLevel HBS.out).mono ?_
                rintro e w3 ⟨rfl, rfl⟩
                go_wp2_with fail
                refine (bscRefHere HBS.out (by have := HLL.out; omega)).mono ?_
                rintro e w3 ⟨lv, rfl, hf3, h3⟩
                rw [refL_here] at hf3
                have H3 := Lib.hid h3
                have O3 := Lib.hid hf3.1
                have B3 := Lib.hid (below_step Hba.out (Nat.le_refl _) hf3.2.1 (fun _ h => h.elim))
                clear hf3 h3
                go_wp2_with fail
                refine (bscHere H3.out (fits_of (by have := HLEN.out f (by simp); omega) (by decide))).mono ?_
                rintro e w4 ⟨mv, rfl, hf4, h4⟩
                have H4 := Lib.hid h4
                have O4 := Lib.hid hf4.1
                have P4 := Lib.hid (O3.out.frame hf4.2.1 (fun _ _ => id))
                have B4 := Lib.hid (below_step B3.out (Nat.le_refl _) hf4.2.1 (fun _ h => h.elim))
                clear hf4 h4
                go_wp2_with fail
                refine (sameI _ _ (f.map (·.1)) (f.map (·.1)) w4 P4.out.rd O4.out.rd).mono ?_
                rintro e w5 ⟨rfl, k5⟩
                rw [decide_eq_true (rfl : f.map (·.1) = f.map (·.1))]
                have Q := Lib.hid (show Below w.heap.size w w5 ∧ SI w5 w.heap.size (.pointer (some ⟨b, 0, none⟩)) (.pointer (some ⟨rb, 0, none⟩)) (k + 1) from
                  ⟨below_step B4.out (Nat.le_refl _) k5 (fun _ h => h.elim), wr.heap.size, fs, f, H4.out.kept k5, fun g hg => by have := HLEN.out g hg; omega, by have := HFL.out; omega, by have := HLL.out; omega⟩)
                clear k5
                go_wp2
                go_roundw
                case rel => exact ⟨k + 1, by omega, by go_num, Q⟩
                case measure => simp [intOf]; omega
    · go_wp2_with fail
      go_ret
      exact ⟨rfl, hb⟩

set_option maxRecDepth 100000 in
theorem scopeInts_calls : LawCalls Try.prog 4 Try.f4 := by
  intro H enc W args ds ps hval hA hsz
  rw [Try.params4] at hA hval hsz
  obtain ⟨v0, d0, rfl, rfl, h0⟩ := trodAll_one hA
  obtain ⟨base, hok⟩ := hval 0 _ v0 rfl rfl
  obtain ⟨fs, hu, hs, hfs⟩ := opFields4
  obtain ⟨xs, hx, _, _, hr⟩ := open_rows_arg Try.underlying35 hu (by rw [hs]; kernel_rfl) hfs hok h0
  rw [hs] at hx
  have hb : Try.prog.bytesOf 41 = 24 := by kernel_rfl
  have := hr hsz (j := 0) rfl rfl
  rw [hb] at this
  exact scopeInts_walk v0 xs W hx this

end Go.Proofs.Ytllcklddfcclfaa
