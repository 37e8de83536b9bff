/- The walk of IndexPairs. -/
import Derived.Test.YtibenffndoknpaaIndexInts
import Derived.Test.YtibenffndoknpaaTextsS
import Derived.Test.YtibenffndoknpaaTextsP
import Derived.Test.YtibenffndoknpaaIdxTok
import Derived.Test.YtibenffndoknpaaIdxAtS
import Derived.Deep.RegionWith
namespace Go.Proofs.Ytibenffndoknpaa
open Go.ChangeShapes Go.WideShapes Go.ChangeAt Go.RowKit
set_option linter.unusedVariables false
set_option linter.unusedSimpArgs false

theorem mem_map_of {α β : Type} {f : α → β} (hf : ∀ a b, f a = f b → a = b) {ks : List α} {k : α} : f k ∈ ks.map f ↔ k ∈ ks := by
  rw [List.mem_map]
  exact ⟨fun ⟨a, h, e⟩ => hf _ _ e ▸ h, fun h => ⟨k, h, rfl⟩⟩

section
variable {α β : Type} [DecidableEq α] [DecidableEq β] {f : α → β}

theorem map_putK (hf : ∀ a b, f a = f b → a = b) {ks : List α} {k : α} : putK (ks.map f) (f k) = (putK ks k).map f := by
  unfold putK
  by_cases h : k ∈ ks
  · rw [if_pos h, if_pos ((mem_map_of hf).2 h)]
  · rw [if_neg h, if_neg (fun h' => h ((mem_map_of hf).1 h'))]
    simp

end

theorem idxOf_map_of {α β : Type} [BEq α] [LawfulBEq α] [BEq β] [LawfulBEq β] {f : α → β} (hf : ∀ a b, f a = f b → a = b) {ks : List α} {k : α} : (ks.map f).idxOf (f k) = ks.idxOf k := by
  induction ks with
  | nil => rfl
  | cons x xs ih =>
    rw [List.map_cons, List.idxOf_cons, List.idxOf_cons, ih]
    by_cases h : x = k
    · rw [show (f x == f k) = true by simp [h], show (x == k) = true by simp [h]]
    · rw [show (f x == f k) = false from beq_eq_false_iff_ne.2 (fun e => h (hf _ _ e)), show (x == k) = false from beq_eq_false_iff_ne.2 h]

theorem tokOf_inj (a b : Int) (h : tokOf a = tokOf b) : a = b := congrArg (·.1) h
theorem textB_inj' (a b : Int) (h : textB a = textB b) : a = b := textB_inj h

/-- The two indexes and the reference hold the same things; their memory is new since B and not in common. -/
structure Trio (wr : World) (B : Nat) (p q r : Value) (F E G : Nat → Prop) (ks : List Int) : Prop where
  idx : IdxT wr p F (ks.map tokOf)
  txt : IdxS wr q E (ks.map textB)
  ref : RefIs wr r G ks
  aFE : ∀ b, F b → ¬ E b
  aFG : ∀ b, F b → ¬ G b
  aEG : ∀ b, E b → ¬ G b
  nF : ∀ b, F b → B ≤ b
  nE : ∀ b, E b → B ≤ b
  nG : ∀ b, G b → B ≤ b

theorem Trio.kept {w w' : World} {B : Nat} {p q r : Value} {F E G : Nat → Prop} {ks : List Int} (h : Trio w B p q r F E G ks) (hk : Kept (fun _ => False) w w') : Trio w' B p q r F E G ks :=
  ⟨h.idx.frame hk (fun _ _ => id), h.txt.frame hk (fun _ _ => id), h.ref.frame hk (fun _ _ => id), h.aFE, h.aFG, h.aEG, h.nF, h.nE, h.nG⟩

theorem Trio.grow {w w1 w2 w3 w4 w5 : World} {B : Nat} {p q r : Value} {F E G F' E' G' : Nat → Prop} {ks : List Int} {k : Int} (h : Trio w B p q r F E G ks) (hB : B ≤ w.heap.size)
    (r1 : RefIs w1 r G' (putK ks k)) (k1 : Kept G w w1) (g1 : ∀ b, G' b → G b ∨ w.heap.size ≤ b) (k2 : Kept (fun _ => False) w1 w2)
    (i3 : IdxT w3 p F' (putK (ks.map tokOf) (tokOf k))) (k3 : Kept F w2 w3) (f3 : ∀ b, F' b → F b ∨ w2.heap.size ≤ b) (k4 : Kept (fun _ => False) w3 w4)
    (i5 : IdxS w5 q E' (putK (ks.map textB) (textB k))) (k5 : Kept E w4 w5) (e5 : ∀ b, E' b → E b ∨ w4.heap.size ≤ b) : Trio w5 B p q r F' E' G' (putK ks k) := by
  have s1 := k1.size
  have s2 := k2.size
  have s3 := k3.size
  have s4 := k4.size
  have lF : ∀ b, F b → b < w.heap.size := fun b => h.idx.lt
  have lE : ∀ b, E b → b < w.heap.size := fun b => h.txt.lt
  have lG : ∀ b, G b → b < w.heap.size := fun b => h.ref.lt
  have lG' : ∀ b, G' b → b < w1.heap.size := fun b => r1.lt
  have lF' : ∀ b, F' b → b < w3.heap.size := fun b => i3.lt
  have hG'F : ∀ b, G' b → ¬ F b := fun b h1 h2 => by
    have := lF b h2
    rcases g1 b h1 with h3 | h3
    · exact h.aFG b h2 h3
    · omega
  have hG'E : ∀ b, G' b → ¬ E b := fun b h1 h2 => by
    have := lE b h2
    rcases g1 b h1 with h3 | h3
    · exact h.aEG b h2 h3
    · omega
  have hF'E : ∀ b, F' b → ¬ E b := fun b h1 h2 => by
    have := lE b h2
    rcases f3 b h1 with h3 | h3
    · exact h.aFE b h3 h2
    · omega
  have hF'G' : ∀ b, F' b → ¬ G' b := fun b h1 h2 => by
    have := lG' b h2
    rcases f3 b h1 with h3 | h3
    · exact hG'F b h2 h3
    · omega
  refine ⟨?_, ?_, ?_, ?_, hF'G', ?_, ?_, ?_, ?_⟩
  · rw [← map_putK tokOf_inj]
    exact (i3.frame k4 (fun _ _ => id)).frame k5 hF'E
  · rw [← map_putK textB_inj']
    exact i5
  · exact (((r1.frame k2 (fun _ _ => id)).frame k3 hG'F).frame k4 (fun _ _ => id)).frame k5 hG'E
  · intro b h1 h2
    have := lF' b h1
    rcases e5 b h2 with h3 | h3
    · exact hF'E b h1 h3
    · omega
  · intro b h1 h2
    have := lG' b h2
    rcases e5 b h1 with h3 | h3
    · exact hG'E b h2 h3
    · omega
  · intro b h1
    rcases f3 b h1 with h3 | h3
    · exact h.nF b h3
    · omega
  · intro b h1
    rcases e5 b h1 with h3 | h3
    · exact h.nE b h3
    · omega
  · intro b h1
    rcases g1 b h1 with h3 | h3
    · exact h.nG b h3
    · omega

set_option maxRecDepth 100000 in
set_option maxHeartbeats 4000000 in
theorem indexPairs_walk (v : Value) (xs : List (List Int)) (w : World) (hx : RdRows w 2 v xs) (hin : ∀ r ∈ xs, r.length = 2 ∧ ∀ x ∈ r, InR x) (hsmall : xs.length ≤ 1048576) :
    Calls Try.prog 6 #[v] w fun e w' => e = .returned (.bool true) ∧ Below w.heap.size w w' := by
  obtain ⟨a, c, rfl, ka1, ka2, ka3⟩ := hx.shape
  have HX := Lib.hid hx
  have KA := Lib.hid ka3
  have HIN := Lib.hid hin
  clear hx ka3 hin
  unfold maxLen at ka2
  go_enter Try.func6, Try.ntmps6
  go_wp2_with fail
  refine (wakes_any w).mono ?_
  rintro e w1 ⟨rfl, hb1⟩
  go_wp2_with fail
  refine (idxNewT w1).mono ?_
  rintro e w2 ⟨p, F0, rfl, hI0, hk0, hF0, b, rfl⟩
  have hb2 := below_step hb1 (Nat.le_refl _) hk0 (fun _ h => h.elim)
  have HI0 := Lib.hid hI0
  have HF0 := Lib.hid hF0
  clear hI0 hF0
  go_wp2_with fail
  refine (idxNewS w2).mono ?_
  rintro e w3 ⟨p, E0, rfl, hE0, hk3, hE1, b', rfl⟩
  have hb3 := below_step hb2 (Nat.le_refl _) hk3 (fun _ h => h.elim)
  have hB0 : Trio (w3.alloc (.cells #[.slice none 0 0] 38)) w.heap.size (.pointer (some ⟨b, 0, none⟩)) (.pointer (some ⟨b', 0, none⟩)) (.pointer (some ⟨w3.heap.size, 0, none⟩)) F0 E0 (fun b => b = w3.heap.size) [] :=
    ⟨(HI0.out.frame hk3 (fun _ _ => id)).frame ((Kept.refl (fun _ => False) w3).alloc _) (fun _ _ => id), hE0.frame ((Kept.refl (fun _ => False) w3).alloc _) (fun _ _ => id), RefIs.made w3,
      fun i h1 h2 => by have := HI0.out.lt h1; have := hE1 i h2; omega, fun i h1 h2 => by have := HI0.out.lt h1; have := hk3.size; omega, fun i h1 h2 => by have := hE0.lt h1; omega,
      fun i h => Nat.le_trans hb1.size (HF0.out i h), fun i h => Nat.le_trans hb2.size (hE1 i h), fun i h => by have := hb3.size; omega⟩
  have HB0 := Lib.hid hB0
  have HL0 := Lib.hid (hb3.alloc hb3.size (.cells #[.slice none 0 0] 38))
  clear hE0 hE1 hB0
  go_wp2_with fail
  go_loopw [6] (fun i wr => ∃ k : Nat, k ≤ xs.length ∧ i = .int .i64 k ∧ ∃ ks : List Int, ks.length ≤ k ∧ Hid ((∀ x ∈ ks, InR x) ∧ Below w.heap.size w wr ∧ ∃ F E G, Trio wr w.heap.size (.pointer (some ⟨b, 0, none⟩)) (.pointer (some ⟨b', 0, none⟩)) (.pointer (some ⟨w3.heap.size, 0, none⟩)) F E G ks)) (fun i _ => xs.length - (intOf i).toNat)
  case atStart => exact ⟨0, Nat.zero_le _, rfl, [], Nat.zero_le _, Lib.hid ⟨by simp, HL0.out, _, _, _, HB0.out⟩⟩
  case round =>
    obtain ⟨k, hk, rfl, ks, hks, hH⟩ := hrel
    obtain ⟨hir, hb, F, E, G, hBo⟩ := hH.out
    by_cases hlt : k < xs.length
    · cases a with
      | none => exact absurd (KA.out rfl).1 (by omega)
      | some ad =>
        have cx := (HX.out.later hb).cell hlt (j := 0) (by omega)
        have cy := (HX.out.later hb).cell' hlt (j := 1) (by omega) (by omega)
        simp only [Nat.add_zero] at cx
        have hyr : InR (xs[k].getD 1 0) := by
          have h1 := HIN.out _ (List.getElem_mem hlt)
          have h2 : 1 < xs[k].length := by omega
          rw [List.getD, List.getElem?_eq_getElem h2]
          exact h1.2 _ (List.getElem_mem h2)
        generalize xs[k].getD 0 0 = x at cx
        generalize xs[k].getD 1 0 = y at cy hyr
        obtain ⟨o, ho⟩ : ∃ o, o = Obj.cells #[.int .i64 x, .int .i64 y] 40 := ⟨_, rfl⟩
        have ha := (Kept.refl (fun _ => False) wr).alloc o
        have hBa := hBo.kept ha
        have hba : Below w.heap.size w (wr.alloc o) := hb.alloc hb.size o
        have hco : (wr.alloc o).heap[wr.heap.size]? = some o := by show (wr.heap.push _)[wr.heap.size]? = _; simp
        have hG : ¬ G wr.heap.size := fun h => by have := hBo.ref.lt h; omega
        have hF : ¬ F wr.heap.size := fun h => by have := hBo.idx.lt h; omega
        have hE : ¬ E wr.heap.size := fun h => by have := hBo.txt.lt h; omega
        have hsa : w.heap.size ≤ (wr.alloc o).heap.size := hba.size
        rw [ho] at hBa hba hco hsa
        have HBa := Lib.hid hBa
        have Hba := Lib.hid hba
        have HCO := Lib.hid hco
        have HG := Lib.hid hG
        have HF := Lib.hid hF
        have HE := Lib.hid hE
        have HSA := Lib.hid hsa
        have HIR := Lib.hid hir
        have HYR := Lib.hid hyr
        have HT8 : Hid (Fits (ks.length + 1) 8) := Lib.hid (fits_small (by omega) (by omega) (by omega))
        have HT40 : Hid (Fits ((ks.map tokOf).length + 1) 40) := Lib.hid (by rw [List.length_map]; exact fits_small (by omega) (by omega) (by omega))
        have HT16 : Hid (Fits ((ks.map textB).length + 1) 16) := Lib.hid (by rw [List.length_map]; exact fits_small (by omega) (by omega) (by omega))
        have hl1 : (putK ks y).length ≤ k + 1 := by have := length_putK ks y; split at this <;> omega
        clear hBo hb hH ha hBa hba hco hG hF hE ho o hsa hir hyr
        by_cases h1 : x = 1
        · subst h1
          have hidT := idxOf_map_of tokOf_inj (ks := ks) (k := y)
          have hidS := idxOf_map_of textB_inj' (ks := ks) (k := y)
          have HIT := Lib.hid hidT
          have HIS := Lib.hid hidS
          have HIR' : Hid (∀ x ∈ putK ks y, InR x) := Lib.hid (fun x hx => by
            rcases mem_putK.1 hx with h | rfl
            · exact HIR.out x h
            · exact HYR.out)
          clear hidT hidS
          go_wp2_with fail
          refine (refNumber HBa.out.ref y HT8.out).mono ?_
          rintro e wb ⟨rfl, G', r1, k1, g1⟩
          have hcb := (k1.block _ (heap_lt HCO.out) HG.out).trans HCO.out
          have co : wb.cell? ⟨wr.heap.size, 1, none⟩ = some (.int .i64 y) := cell_of hcb rfl
          have HCB := Lib.hid hcb
          have R1 := Lib.hid r1
          have K1 := Lib.hid k1
          have G1 := Lib.hid g1
          clear r1 k1 g1 hcb
          go_wp2_with fail
          refine (pair_tok y wb HYR.out.1 HYR.out.2).mono ?_
          rintro e wc ⟨rfl, k2⟩
          have K2 := Lib.hid k2
          have HCC := Lib.hid ((k2.block _ (heap_lt HCB.out) id).trans HCB.out)
          have HI := Lib.hid ((HBa.out.idx.frame K1.out HBa.out.aFG).frame k2 (fun _ _ => id))
          clear k2 co
          go_wp2_with fail
          refine (idxNumberT HI.out (tokOf y) HT40.out).mono ?_
          rintro e wd ⟨rfl, F', i3, k3, f3⟩
          rw [HIT.out]
          have hcd := (k3.block _ (heap_lt HCC.out) HF.out).trans HCC.out
          have cd : wd.cell? ⟨wr.heap.size, 1, none⟩ = some (.int .i64 y) := cell_of hcd rfl
          have I3 := Lib.hid i3
          have K3 := Lib.hid k3
          have F3 := Lib.hid f3
          clear i3 k3 f3 hcd
          go_wp2_with fail
          refine (text_text y wd HYR.out.1 HYR.out.2).mono ?_
          rintro e we ⟨rfl, k4⟩
          have K4 := Lib.hid k4
          have HS := Lib.hid ((((HBa.out.txt.frame K1.out HBa.out.aEG).frame K2.out (fun _ _ => id)).frame K3.out (fun b h1 h2 => HBa.out.aFE b h2 h1)).frame k4 (fun _ _ => id))
          clear k4 cd
          go_wp2_with fail
          refine (idxNumberS HS.out (textB y) HT16.out).mono ?_
          rintro e wf ⟨rfl, E', i5, k5, e5⟩
          rw [HIS.out]
          have HN := Lib.hid (HBa.out.grow HSA.out R1.out K1.out G1.out K2.out I3.out K3.out F3.out K4.out i5 k5 e5)
          have HBf := Lib.hid (below_step (below_step (below_step (below_step (below_step Hba.out (Nat.le_refl _) K1.out HBa.out.nG) (Nat.le_refl _) K2.out (fun _ h => h.elim)) (Nat.le_refl _) K3.out HBa.out.nF) (Nat.le_refl _) K4.out (fun _ h => h.elim)) (Nat.le_refl _) k5 HBa.out.nE)
          clear i5 k5 e5
          generalize ks.idxOf y = n
          go_wp2
          go_roundw
          case rel => exact ⟨k + 1, by omega, by go_num, putK ks y, hl1, Lib.hid ⟨HIR'.out, HBf.out, F', E', G', HN.out⟩⟩
          case measure => simp [intOf]; omega
        · have b1 : (x == 1) = false := by simp [h1]
          by_cases h2 : x = 2
          · subst h2
            generalize hn0 : (if y ∈ ks then ks.idxOf y else 0) = n0
            generalize he0 : (if y ∈ ks then (0 : Int) else 6) = e0
            have hr := refFind HBa.out.ref y
            rw [hn0, he0] at hr
            have HR := Lib.hid hr
            have HTF : Hid (∀ wx, IdxT wx (.pointer (some ⟨b, 0, none⟩)) F (ks.map tokOf) → Calls Try.prog 27 #[.pointer (some ⟨b, 0, none⟩), encT (tokOf y)] wx fun e w' => e = .returned (.tuple #[.int .i64 n0, .int .i64 e0]) ∧ Kept (fun _ => False) wx w') := Lib.hid (fun wx h => by
              have := idxFindT h (tokOf y)
              simp only [mem_map_of tokOf_inj, idxOf_map_of tokOf_inj] at this
              rw [hn0, he0] at this
              exact this)
            have HSF : Hid (∀ wx, IdxS wx (.pointer (some ⟨b', 0, none⟩)) E (ks.map textB) → Calls Try.prog 28 #[.pointer (some ⟨b', 0, none⟩), encS (textB y)] wx fun e w' => e = .returned (.tuple #[.int .i64 n0, .int .i64 e0]) ∧ wx = w') := Lib.hid (fun wx h => by
              have := idxFindS h (textB y)
              simp only [mem_map_of textB_inj', idxOf_map_of textB_inj'] at this
              rw [hn0, he0] at this
              exact this)
            clear hr hn0 he0 h1
            go_wp2_with fail
            refine HR.out.mono ?_
            rintro e wb ⟨rfl, rfl⟩
            have co : (wr.alloc (Obj.cells #[.int .i64 2, .int .i64 y] 40)).cell? ⟨wr.heap.size, 1, none⟩ = some (.int .i64 y) := cell_of HCO.out rfl
            go_wp2_with fail
            refine (pair_tok y _ HYR.out.1 HYR.out.2).mono ?_
            rintro e wc ⟨rfl, k2⟩
            have H2 := Lib.hid (HBa.out.kept k2)
            have HCC := Lib.hid ((k2.block _ (heap_lt HCO.out) id).trans HCO.out)
            have B2 := Lib.hid (below_step Hba.out (Nat.le_refl _) k2 (fun _ h => h.elim))
            clear k2 co
            go_wp2_with fail
            refine (HTF.out wc H2.out.idx).mono ?_
            rintro e wd ⟨rfl, k3⟩
            have H3 := Lib.hid (H2.out.kept k3)
            have hcd := (k3.block _ (heap_lt HCC.out) id).trans HCC.out
            have cd : wd.cell? ⟨wr.heap.size, 1, none⟩ = some (.int .i64 y) := cell_of hcd rfl
            have B3 := Lib.hid (below_step B2.out (Nat.le_refl _) k3 (fun _ h => h.elim))
            clear k3 hcd
            go_wp2_with fail
            refine (text_text y wd HYR.out.1 HYR.out.2).mono ?_
            rintro e we ⟨rfl, k4⟩
            have H4 := Lib.hid (H3.out.kept k4)
            have B4 := Lib.hid (below_step B3.out (Nat.le_refl _) k4 (fun _ h => h.elim))
            clear k4 cd
            go_wp2_with fail
            refine (HSF.out we H4.out.txt).mono ?_
            rintro e wf ⟨rfl, rfl⟩
            go_wp2
            go_roundw
            case rel => exact ⟨k + 1, by omega, by go_num, ks, by omega, Lib.hid ⟨HIR.out, B4.out, F, E, G, H4.out⟩⟩
            case measure => simp [intOf]; omega
          · have b2 : (x == 2) = false := by simp [h2]
            by_cases h3 : x = 3
            · subst h3
              clear h1 h2
              by_cases hr : 0 ≤ y ∧ y < (ks.length : Int)
              · have HR := Lib.hid (refAt_ok HBa.out.ref y hr.1 hr.2)
                have HRR := Lib.hid hr
                clear hr
                go_wp2_with fail
                refine HR.out.mono ?_
                rintro e wb ⟨z, hz, rfl, rfl⟩
                have HZ := Lib.hid hz
                have HZR := Lib.hid (HIR.out z (List.mem_of_getElem? hz))
                have co : (wr.alloc (Obj.cells #[.int .i64 3, .int .i64 y] 40)).cell? ⟨wr.heap.size, 1, none⟩ = some (.int .i64 y) := cell_of HCO.out rfl
                clear hz
                go_wp2_with fail
                refine (idxAtT_ok HBa.out.idx y HRR.out.1 (by rw [List.length_map]; exact HRR.out.2)).mono ?_
                rintro e wc ⟨z', hz', rfl, k2⟩
                have : z' = tokOf z := by rw [List.getElem?_map, HZ.out] at hz'; simpa using hz'.symm
                subst this
                unfold encT
                have H2 := Lib.hid (HBa.out.kept k2)
                have hcc := (k2.block _ (heap_lt HCO.out) id).trans HCO.out
                have cc : wc.cell? ⟨wr.heap.size, 1, none⟩ = some (.int .i64 y) := cell_of hcc rfl
                have B2 := Lib.hid (below_step Hba.out (Nat.le_refl _) k2 (fun _ h => h.elim))
                have htk : (wc.alloc (.cells #[.int .i64 z, .string ⟨(textB z).toArray⟩, .int .i64 0, .int .i64 0] 46)).heap[wc.heap.size]? = some (.cells #[.int .i64 z, .string ⟨(textB z).toArray⟩, .int .i64 0, .int .i64 0] 46) := by
                  show (wc.heap.push _)[wc.heap.size]? = _; simp
                have HTK := Lib.hid htk
                have H3 := Lib.hid (H2.out.kept ((Kept.refl (fun _ => False) wc).alloc (.cells #[.int .i64 z, .string ⟨(textB z).toArray⟩, .int .i64 0, .int .i64 0] 46)))
                have B3 := Lib.hid (B2.out.alloc B2.out.size (.cells #[.int .i64 z, .string ⟨(textB z).toArray⟩, .int .i64 0, .int .i64 0] 46))
                have cd : (wc.alloc (.cells #[.int .i64 z, .string ⟨(textB z).toArray⟩, .int .i64 0, .int .i64 0] 46)).cell? ⟨wr.heap.size, 1, none⟩ = some (.int .i64 y) := cell_of (heap_alloc hcc _) rfl
                clear k2 co hz' htk hcc
                unfold tokOf
                go_wp2_with fail
                refine (idxAtS_ok H3.out.txt y HRR.out.1 (by rw [List.length_map]; exact HRR.out.2)).mono ?_
                rintro e wd ⟨z', hz', rfl, rfl⟩
                have : z' = textB z := by rw [List.getElem?_map, HZ.out] at hz'; simpa using hz'.symm
                subst this
                unfold encS
                clear hz' cd cc
                obtain ⟨tb, htb⟩ : ∃ tb, tb = wc.heap.size := ⟨_, rfl⟩
                rw [← htb] at HTK ⊢
                clear htb
                generalize (wc.alloc (.cells #[.int .i64 z, .string ⟨(textB z).toArray⟩, .int .i64 0, .int .i64 0] 46)) = wd at HTK H3 B3 ⊢
                have hcmp := fun wx => run_eql_tok wx (tokOf z) (tokOf z)
                simp only [decide_true] at hcmp
                unfold encT tokOf at hcmp
                dsimp only at hcmp
                have t0 : wd.cell? ⟨tb, 0, none⟩ = _ := cell_of HTK.out rfl
                have t1 : wd.cell? ⟨tb, 1, none⟩ = _ := cell_of HTK.out rfl
                have t2 : wd.cell? ⟨tb, 2, none⟩ = _ := cell_of HTK.out rfl
                have t3 : wd.cell? ⟨tb, 3, none⟩ = _ := cell_of HTK.out rfl
                simp at t0 t1 t2 t3
                go_wp2_with fail
                go_region_with (first
                  | (go_at_call 24
                     refine (pair_tok z _ HZR.out.1 HZR.out.2).mono ?_
                     rintro e wx ⟨rfl, kx⟩
                     have hx := (kx.block tb (heap_lt HTK.out) id).trans HTK.out
                     have s0 : wx.cell? ⟨tb, 0, none⟩ = _ := cell_of hx rfl
                     have s1 : wx.cell? ⟨tb, 1, none⟩ = _ := cell_of hx rfl
                     have s2 : wx.cell? ⟨tb, 2, none⟩ = _ := cell_of hx rfl
                     have s3 : wx.cell? ⟨tb, 3, none⟩ = _ := cell_of hx rfl
                     have kx' : Kept (fun _ => False) wd wx := ⟨kx.os, kx.tape, kx.output, kx.size, kx.block⟩
                     have KX := Lib.hid kx'
                     clear kx kx' hx
                     simp at s0 s1 s2 s3
                     unfold encT tokOf
                     dsimp only)
                  | (go_at_call 26
                     refine (text_text z _ HZR.out.1 HZR.out.2).mono ?_
                     rintro e wy ⟨rfl, ky⟩
                     have ky' : Kept (fun _ => False) wx wy := ⟨ky.os, ky.tape, ky.output, ky.size, ky.block⟩
                     have KY := Lib.hid ky'
                     clear ky ky'))
                all_goals
                  have H4 := Lib.hid ((H3.out.kept KX.out).kept KY.out)
                  have B4 := Lib.hid (below_step (below_step B3.out (Nat.le_refl _) KX.out (fun _ h => h.elim)) (Nat.le_refl _) KY.out (fun _ h => h.elim))
                  clear hcmp
                  go_wp2
                  go_roundw
                  case rel => exact ⟨k + 1, by omega, by go_num, ks, by omega, Lib.hid ⟨HIR.out, B4.out, F, E, G, H4.out⟩⟩
                  case measure => simp [intOf]; omega
              · have hr' : y < 0 ∨ (ks.length : Int) ≤ y := by omega
                have HR := Lib.hid (refAt_bad HBa.out.ref y hr')
                have HRT := Lib.hid (idxAtT_bad HBa.out.idx y (by rw [List.length_map]; exact hr'))
                have HRR := Lib.hid hr'
                clear hr hr'
                go_wp2_with fail
                refine HR.out.mono ?_
                rintro e wb ⟨rfl, rfl⟩
                have co : (wr.alloc (Obj.cells #[.int .i64 3, .int .i64 y] 40)).cell? ⟨wr.heap.size, 1, none⟩ = some (.int .i64 y) := cell_of HCO.out rfl
                go_wp2_with fail
                refine HRT.out.mono ?_
                rintro e wc ⟨rfl, k2⟩
                have H2 := Lib.hid (HBa.out.kept k2)
                have hcc := (k2.block _ (heap_lt HCO.out) id).trans HCO.out
                have cc : wc.cell? ⟨wr.heap.size, 1, none⟩ = some (.int .i64 y) := cell_of hcc rfl
                have B2 := Lib.hid (below_step Hba.out (Nat.le_refl _) k2 (fun _ h => h.elim))
                have htk : (wc.alloc (.cells #[.int .i64 0, .string ⟨#[]⟩, .int .i64 0, .int .i64 0] 46)).heap[wc.heap.size]? = some (.cells #[.int .i64 0, .string ⟨#[]⟩, .int .i64 0, .int .i64 0] 46) := by
                  show (wc.heap.push _)[wc.heap.size]? = _; simp
                have HTK := Lib.hid htk
                have H3 := Lib.hid (H2.out.kept ((Kept.refl (fun _ => False) wc).alloc (.cells #[.int .i64 0, .string ⟨#[]⟩, .int .i64 0, .int .i64 0] 46)))
                have B3 := Lib.hid (B2.out.alloc B2.out.size (.cells #[.int .i64 0, .string ⟨#[]⟩, .int .i64 0, .int .i64 0] 46))
                have cd : (wc.alloc (.cells #[.int .i64 0, .string ⟨#[]⟩, .int .i64 0, .int .i64 0] 46)).cell? ⟨wr.heap.size, 1, none⟩ = some (.int .i64 y) := cell_of (heap_alloc hcc _) rfl
                clear k2 co htk hcc
                go_wp2_with fail
                refine (idxAtS_bad H3.out.txt y (by rw [List.length_map]; exact HRR.out)).mono ?_
                rintro e wd ⟨rfl, rfl⟩
                clear cd cc
                obtain ⟨tb, htb⟩ : ∃ tb, tb = wc.heap.size := ⟨_, rfl⟩
                rw [← htb] at HTK ⊢
                clear htb
                generalize (wc.alloc (.cells #[.int .i64 0, .string ⟨#[]⟩, .int .i64 0, .int .i64 0] 46)) = wd at HTK H3 B3 ⊢
                have hcmp := fun wx => run_eql_tok wx (0, [], 0, 0) (0, [], 0, 0)
                simp only [decide_true] at hcmp
                unfold encT at hcmp
                dsimp only at hcmp
                have t0 : wd.cell? ⟨tb, 0, none⟩ = _ := cell_of HTK.out rfl
                have t1 : wd.cell? ⟨tb, 1, none⟩ = _ := cell_of HTK.out rfl
                have t2 : wd.cell? ⟨tb, 2, none⟩ = _ := cell_of HTK.out rfl
                have t3 : wd.cell? ⟨tb, 3, none⟩ = _ := cell_of HTK.out rfl
                simp at t0 t1 t2 t3
                go_wp2
                go_roundw
                case rel => exact ⟨k + 1, by omega, by go_num, ks, by omega, Lib.hid ⟨HIR.out, B3.out, F, E, G, H3.out⟩⟩
                case measure => simp [intOf]; omega
            · have b3 : (x == 3) = false := by simp [h3]
              clear h1 h2 h3
              have HT8' : Hid (Fits ks.length 8) := Lib.hid (fits_small (by omega) (by omega) (by omega))
              have HT40' : Hid (Fits (ks.map tokOf).length 40) := Lib.hid (by rw [List.length_map]; exact fits_small (by omega) (by omega) (by omega))
              have HT16' : Hid (Fits (ks.map textB).length 16) := Lib.hid (by rw [List.length_map]; exact fits_small (by omega) (by omega) (by omega))
              go_wp2_with fail
              refine (refList HBa.out.ref HT8'.out).mono ?_
              rintro e wb ⟨v3, rfl, o3, k3, n3⟩
              have H3 := Lib.hid (HBa.out.kept k3)
              have B3 := Lib.hid (below_step Hba.out (Nat.le_refl _) k3 (fun _ h => h.elim))
              obtain ⟨a3, c3, rfl, t1, t2, t3⟩ := o3.shape
              have O3 := Lib.hid o3
              clear o3 k3 n3 t3
              go_wp2_with fail
              refine (textsP _ ks wb O3.out.rd HIR.out (by omega)).mono ?_
              rintro e wc ⟨v4, rfl, o4, k4, n4⟩
              have H4 := Lib.hid (H3.out.kept k4)
              have B4 := Lib.hid (below_step B3.out (Nat.le_refl _) k4 (fun _ h => h.elim))
              have O4 := Lib.hid o4
              have O34 := Lib.hid (O3.out.frame k4 (fun _ _ => id))
              clear o4 k4 n4
              go_wp2_with fail
              refine (idxListT H4.out.idx HT40'.out).mono ?_
              rintro e wd ⟨v5, rfl, o5, k5, n5⟩
              have H5 := Lib.hid (H4.out.kept k5)
              have B5 := Lib.hid (below_step B4.out (Nat.le_refl _) k5 (fun _ h => h.elim))
              have O45 := Lib.hid (O4.out.frame k5 (fun _ _ => id))
              have O35 := Lib.hid (O34.out.frame k5 (fun _ _ => id))
              have O5 := Lib.hid o5
              clear o5 k5 n5
              go_wp2_with fail
              have hsp := sameP v4 v5 (ks.map tokOf) (ks.map tokOf) wd (by have := O45.out.rd; rwa [List.length_map]) O5.out.rd
              rw [show decide (ks.map tokOf = ks.map tokOf) = true by simp] at hsp
              refine hsp.mono ?_
              rintro e we ⟨rfl, k6⟩
              have H6 := Lib.hid (H5.out.kept k6)
              have B6 := Lib.hid (below_step B5.out (Nat.le_refl _) k6 (fun _ h => h.elim))
              have O36 := Lib.hid (O35.out.frame k6 (fun _ _ => id))
              clear hsp k6
              go_wp2_with fail
              refine (textsS _ ks we O36.out.rd HIR.out (by omega)).mono ?_
              rintro e wf ⟨v7, rfl, o7, k7, n7⟩
              have H7 := Lib.hid (H6.out.kept k7)
              have B7 := Lib.hid (below_step B6.out (Nat.le_refl _) k7 (fun _ h => h.elim))
              have O7 := Lib.hid o7
              clear o7 k7 n7
              go_wp2_with fail
              refine (idxListS H7.out.txt HT16'.out).mono ?_
              rintro e wg ⟨v8, rfl, o8, k8, n8⟩
              have H8 := Lib.hid (H7.out.kept k8)
              have B8 := Lib.hid (below_step B7.out (Nat.le_refl _) k8 (fun _ h => h.elim))
              have O78 := Lib.hid (O7.out.frame k8 (fun _ _ => id))
              have O8 := Lib.hid o8
              clear o8 k8 n8
              go_wp2_with fail
              have hss := sameS v7 v8 (ks.map textB) (ks.map textB) wg (by have := O78.out.rd; rwa [List.length_map]) O8.out.rd
              rw [show decide (ks.map textB = ks.map textB) = true by simp] at hss
              refine hss.mono ?_
              rintro e wh ⟨rfl, k9⟩
              have H9 := Lib.hid (H8.out.kept k9)
              have B9 := Lib.hid (below_step B8.out (Nat.le_refl _) k9 (fun _ h => h.elim))
              clear hss k9
              go_wp2_with fail
              refine (idxLenT H9.out.idx).mono ?_
              rintro e wi ⟨rfl, rfl⟩
              rw [List.length_map]
              go_wp2_with fail
              refine (idxLenS H9.out.txt).mono ?_
              rintro e wi ⟨rfl, rfl⟩
              rw [List.length_map]
              go_wp2
              go_roundw
              case rel => exact ⟨k + 1, by omega, by go_num, ks, by omega, Lib.hid ⟨HIR.out, B9.out, F, E, G, H9.out⟩⟩
              case measure => simp [intOf]; omega
    · go_wp2_with fail
      go_ret
      exact ⟨rfl, hb⟩

end Go.Proofs.Ytibenffndoknpaa
