/- The walk of IndexInts. -/
import Derived.Test.YtibenffndoknpaaArgsR
import Derived.Test.YtibenffndoknpaaRef03
import Derived.Test.YtibenffndoknpaaIdxAtI
import Derived.Test.YtibenffndoknpaaWakes3
namespace Go.Proofs.Ytibenffndoknpaa
open Go.ChangeShapes Go.WideShapes Go.ChangeAt Go.RowKit
set_option linter.unusedVariables false
set_option linter.unusedSimpArgs false

/-- The index and the reference hold the same things; their memory is new since B and not in common. -/
structure Both (wr : World) (B : Nat) (p r : Value) (F G : Nat → Prop) (ks : List Int) : Prop where
  idx : IdxI wr p F ks
  ref : RefIs wr r G ks
  apart : ∀ b, F b → ¬ G b
  newF : ∀ b, F b → B ≤ b
  newG : ∀ b, G b → B ≤ b

theorem Both.kept {w w' : World} {B : Nat} {p r : Value} {F G : Nat → Prop} {ks : List Int} (h : Both w B p r F G ks) (hk : Kept (fun _ => False) w w') : Both w' B p r F G ks :=
  ⟨h.idx.frame hk (fun _ _ => id), h.ref.frame hk (fun _ _ => id), h.apart, h.newF, h.newG⟩

theorem Both.grow {w w1 w2 : World} {B : Nat} {p r : Value} {F G F' G' : Nat → Prop} {ks : List Int} {k : Int} (h : Both w B p r F G ks) (hB : B ≤ w.heap.size)
    (r1 : RefIs w1 r G' (putK ks k)) (k1 : Kept G w w1) (g1 : ∀ b, G' b → G b ∨ w.heap.size ≤ b) (i2 : IdxI w2 p F' (putK ks k)) (k2 : Kept F w1 w2) (f2 : ∀ b, F' b → F b ∨ w1.heap.size ≤ b) : Both w2 B p r F' G' (putK ks k) := by
  have s1 := k1.size
  have hFG : ∀ b, G' b → ¬ F b := fun b h1 h2 => by
    rcases g1 b h1 with h3 | h3
    · exact h.apart b h2 h3
    · have := h.idx.lt h2; omega
  refine ⟨i2, r1.frame k2 hFG, ?_, ?_, ?_⟩
  · intro b h1 h2
    rcases f2 b h1 with h3 | h3
    · exact hFG b h2 h3
    · have := r1.lt h2; omega
  · intro b h1
    rcases f2 b h1 with h3 | h3
    · exact h.newF b h3
    · omega
  · intro b h1
    rcases g1 b h1 with h3 | h3
    · exact h.newG b h3
    · omega

theorem opFields : ∃ fs, Try.prog.underlying 40 = some (.struct fs) ∧ fs.size = 2 ∧ IntFields Try.prog fs := by
  refine ⟨_, Try.underlying40, rfl, ?_⟩
  intro j f h
  match j, h with
  | 0, h => cases h; exact ⟨rfl, Try.underlying3, by kernel_rfl⟩
  | 1, h => cases h; exact ⟨rfl, Try.underlying3, by kernel_rfl⟩
  | n + 2, h => simp at h

set_option maxRecDepth 100000 in
set_option maxHeartbeats 2000000 in
theorem indexInts_walk (v : Value) (xs : List (List Int)) (w : World) (hx : RdRows w 2 v xs) (hreach : xs.length * 16 ≤ 140737488351232) :
    Calls Try.prog 5 #[v] w fun e w' => e = .returned (.bool true) ∧ Below w.heap.size w w' := by
  obtain ⟨a, c, rfl, ka1, ka2, ka3⟩ := hx.shape
  have HX := Lib.hid hx
  have KA := Lib.hid ka3
  clear hx ka3
  unfold maxLen at ka2
  go_enter Try.func5, Try.ntmps5
  go_wp2_with fail
  refine (wakes_any w).mono ?_
  rintro e w1 ⟨rfl, hb1⟩
  go_wp2_with fail
  refine (idxNewI w1).mono ?_
  rintro e w2 ⟨p, F0, rfl, hI0, hk0, hF0, b, rfl⟩
  have hb2 := below_step hb1 (Nat.le_refl _) hk0 (fun _ h => h.elim)
  have hB0 : Both (w2.alloc (.cells #[.slice none 0 0] 38)) w.heap.size (.pointer (some ⟨b, 0, none⟩)) (.pointer (some ⟨w2.heap.size, 0, none⟩)) F0 (fun b => b = w2.heap.size) [] :=
    ⟨hI0.frame ((Kept.refl (fun _ => False) w2).alloc _) (fun _ _ => id), RefIs.made w2, fun i h1 h2 => by have := hI0.lt h1; omega, fun i h => Nat.le_trans hb1.size (hF0 i h), fun i h => by have := hb2.size; omega⟩
  have HB0 := Lib.hid hB0
  have HL0 := Lib.hid (hb2.alloc hb2.size (.cells #[.slice none 0 0] 38))
  clear hI0 hF0 hB0
  go_wp2_with fail
  go_loopw [5] (fun i wr => ∃ k : Nat, k ≤ xs.length ∧ i = .int .i64 k ∧ ∃ ks : List Int, ks.length ≤ k ∧ Hid (Below w.heap.size w wr ∧ ∃ F G, Both wr w.heap.size (.pointer (some ⟨b, 0, none⟩)) (.pointer (some ⟨w2.heap.size, 0, none⟩)) F G ks)) (fun i _ => xs.length - (intOf i).toNat)
  case atStart => exact ⟨0, Nat.zero_le _, rfl, [], Nat.zero_le _, Lib.hid ⟨HL0.out, _, _, HB0.out⟩⟩
  case round =>
    obtain ⟨k, hk, rfl, ks, hks, hH⟩ := hrel
    obtain ⟨hb, F, G, hBo⟩ := hH.out
    by_cases hlt : k < xs.length
    · cases a with
      | none => exact absurd (KA.out rfl).1 (by omega)
      | some ad =>
        have cx := (HX.out.later hb).cell hlt (j := 0) (by omega)
        have cy := (HX.out.later hb).cell' hlt (j := 1) (by omega) (by omega)
        simp only [Nat.add_zero] at cx
        generalize xs[k].getD 0 0 = x at cx
        generalize xs[k].getD 1 0 = y at cy
        obtain ⟨o, ho⟩ : ∃ o, o = Obj.cells #[.int .i64 x, .int .i64 y] 40 := ⟨_, rfl⟩
        have ha := (Kept.refl (fun _ => False) wr).alloc o
        have hBa := hBo.kept ha
        have hba : Below w.heap.size w (wr.alloc o) := hb.alloc hb.size o
        have hco : (wr.alloc o).heap[wr.heap.size]? = some o := by show (wr.heap.push _)[wr.heap.size]? = _; simp
        have hG : ¬ G wr.heap.size := fun h => by have := hBo.ref.lt h; omega
        have hsa : w.heap.size ≤ (wr.alloc o).heap.size := hba.size
        rw [ho] at hBa hba hco hsa
        have HBa := Lib.hid hBa
        have Hba := Lib.hid hba
        have HCO := Lib.hid hco
        have HG := Lib.hid hG
        have HSA := Lib.hid hsa
        have HT : Hid (Fits (ks.length + 1) 8) := Lib.hid (fits_of (by omega) (by omega))
        have HT0 : Hid (Fits ks.length 8) := Lib.hid (fits_of (by omega) (by omega))
        have hl1 : (putK ks y).length ≤ k + 1 := by have := length_putK ks y; split at this <;> omega
        clear hBo hb hH ha hBa hba hco hG ho o hsa
        by_cases h1 : x = 1
        · subst h1
          go_wp2_with fail
          refine (refNumber HBa.out.ref y HT.out).mono ?_
          rintro e w3 ⟨rfl, G', r1, k1, g1⟩
          have co : w3.cell? ⟨wr.heap.size, 1, none⟩ = some (.int .i64 y) := k1.cell (cell_of HCO.out rfl) HG.out
          have HI3 := Lib.hid (HBa.out.idx.frame k1 HBa.out.apart)
          have R1 := Lib.hid r1
          have K1 := Lib.hid k1
          have G1 := Lib.hid g1
          clear r1 k1 g1
          go_wp2_with fail
          refine (idxNumberI HI3.out y HT.out).mono ?_
          rintro e w4 ⟨rfl, F', i2, k2, f2⟩
          have HN := Lib.hid (HBa.out.grow HSA.out R1.out K1.out G1.out i2 k2 f2)
          have HB4 := Lib.hid (below_step (below_step Hba.out (Nat.le_refl _) K1.out HBa.out.newG) (Nat.le_refl _) k2 HBa.out.newF)
          clear i2 k2 f2
          generalize ks.idxOf y = n
          go_wp2
          go_roundw
          case rel => exact ⟨k + 1, by omega, by go_num, putK ks y, hl1, Lib.hid ⟨HB4.out, F', G', HN.out⟩⟩
          case measure => simp [intOf]; omega
        · have b1 : (x == 1) = false := by simp [h1]
          by_cases h2 : x = 2
          · subst h2
            have hr := refFind HBa.out.ref y
            have hi := idxFindI HBa.out.idx y
            generalize (if y ∈ ks then ks.idxOf y else 0) = n0 at hr hi
            generalize (if y ∈ ks then (0 : Int) else 6) = e0 at hr hi
            have HR := Lib.hid hr
            have HI := Lib.hid hi
            clear hr hi h1
            go_wp2_with fail
            refine HR.out.mono ?_
            rintro e w3 ⟨rfl, rfl⟩
            go_wp2_with fail
            refine HI.out.mono ?_
            rintro e w3 ⟨rfl, rfl⟩
            go_wp2
            go_roundw
            case rel => exact ⟨k + 1, by omega, by go_num, ks, by omega, Lib.hid ⟨Hba.out, F, G, HBa.out⟩⟩
            case measure => simp [intOf]; omega
          · have b2 : (x == 2) = false := by simp [h2]
            by_cases h3 : x = 3
            · subst h3
              clear h1 h2
              by_cases hr : 0 ≤ y ∧ y < (ks.length : Int)
              · have HR := Lib.hid (refAt_ok HBa.out.ref y hr.1 hr.2)
                have HI := Lib.hid (idxAtI_ok HBa.out.idx y hr.1 hr.2)
                clear hr
                go_wp2_with fail
                refine HR.out.mono ?_
                rintro e w3 ⟨z, hz, rfl, rfl⟩
                go_wp2_with fail
                refine HI.out.mono ?_
                rintro e w3 ⟨z', hz', rfl, rfl⟩
                have : z' = z := by rw [hz] at hz'; simpa using hz'.symm
                subst this
                unfold encI
                clear hz hz'
                go_wp2
                go_roundw
                case rel => exact ⟨k + 1, by omega, by go_num, ks, by omega, Lib.hid ⟨Hba.out, F, G, HBa.out⟩⟩
                case measure => simp [intOf]; omega
              · have hr' : y < 0 ∨ (ks.length : Int) ≤ y := by omega
                have HR := Lib.hid (refAt_bad HBa.out.ref y hr')
                have HI := Lib.hid (idxAtI_bad HBa.out.idx y hr')
                clear hr hr'
                go_wp2_with fail
                refine HR.out.mono ?_
                rintro e w3 ⟨rfl, rfl⟩
                go_wp2_with fail
                refine HI.out.mono ?_
                rintro e w3 ⟨rfl, rfl⟩
                go_wp2
                go_roundw
                case rel => exact ⟨k + 1, by omega, by go_num, ks, by omega, Lib.hid ⟨Hba.out, F, G, HBa.out⟩⟩
                case measure => simp [intOf]; omega
            · have b3 : (x == 3) = false := by simp [h3]
              clear h1 h2 h3
              go_wp2_with fail
              refine (refList HBa.out.ref HT0.out).mono ?_
              rintro e w3 ⟨v3, rfl, o3, k3, n3⟩
              have H3 := Lib.hid (HBa.out.kept k3)
              have B3 := Lib.hid (below_step Hba.out (Nat.le_refl _) k3 (fun _ h => h.elim))
              obtain ⟨a3, c3, rfl, t1, t2, t3⟩ := o3.shape
              have O3 := Lib.hid o3
              clear o3 k3 n3 t3
              go_wp2_with fail
              refine (idxListI H3.out.idx HT0.out).mono ?_
              rintro e w4 ⟨v4, rfl, o4, k4, n4⟩
              have H4 := Lib.hid (H3.out.kept k4)
              have B4 := Lib.hid (below_step B3.out (Nat.le_refl _) k4 (fun _ h => h.elim))
              have O4 := Lib.hid o4
              have O34 := Lib.hid (O3.out.frame k4 (fun _ _ => id))
              clear o4 k4 n4
              go_wp2_with fail
              refine (sameI (.slice a3 ks.length c3) v4 ks ks w4 O34.out.rd O4.out.rd).mono ?_
              rintro e w5 ⟨rfl, k5⟩
              have hdt : decide (ks = ks) = true := by simp
              rw [hdt]
              have H5 := Lib.hid (H4.out.kept k5)
              have B5 := Lib.hid (below_step B4.out (Nat.le_refl _) k5 (fun _ h => h.elim))
              clear k5 hdt
              go_wp2_with fail
              refine (idxLenI H5.out.idx).mono ?_
              rintro e w6 ⟨rfl, rfl⟩
              go_wp2
              go_roundw
              case rel => exact ⟨k + 1, by omega, by go_num, ks, by omega, Lib.hid ⟨B5.out, F, G, H5.out⟩⟩
              case measure => simp [intOf]; omega
    · go_wp2_with fail
      go_ret
      exact ⟨rfl, hb⟩

theorem indexInts_calls : LawCalls Try.prog 5 Try.f5 := by
  intro H enc W args ds ps hval hA hsz
  rw [Try.params5] at hA hval hsz
  obtain ⟨v0, d0, rfl, rfl, h0⟩ := trodAll_one hA
  obtain ⟨base, hok⟩ := hval 0 _ v0 rfl rfl
  obtain ⟨fs, hu, hs, hfs⟩ := opFields
  obtain ⟨xs, hx, _, _, hr⟩ := open_rows_arg Try.underlying35 hu (by rw [hs]; kernel_rfl) hfs hok h0
  rw [hs] at hx
  have hb : Try.prog.bytesOf 40 = 16 := by kernel_rfl
  have := hr hsz (j := 0) rfl rfl
  rw [hb] at this
  exact indexInts_walk v0 xs W hx this

end Go.Proofs.Ytibenffndoknpaa
