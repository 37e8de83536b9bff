/- The walk of UnionClasses. -/
import Derived.Test.YtodklnfdmcadkaaArgsA
import Derived.Test.YtodklnfdmcadkaaWakes6
import Derived.Test.YtodklnfdmcadkaaUniAp
import Derived.Test.YtodklnfdmcadkaaClsPure
namespace Go.Proofs.Ytodklnfdmcadkaa
open Go.ChangeShapes Go.WideShapes Go.ChangeAt Go.RowKit
set_option linter.unusedVariables false
set_option linter.unusedSimpArgs false

/-- The pairs ahead of j that lie within are of one set each. -/
def Joined (n : Nat) (xs : List (List Int)) (j : Nat) (ρ : Nat → Nat) : Prop :=
  ∀ t (h : t < xs.length), t < j → ∀ a b : Nat, a < n → b < n → xs[t].getD 0 0 = a → xs[t].getD 1 0 = b → ρ a = ρ b

theorem Joined.step {n : Nat} {xs : List (List Int)} {j : Nat} {ρ ρ1 : Nat → Nat} {c : Int} (h : Joined n xs j ρ) (hj : j < xs.length) (hr : JR n (xs[j].getD 0 0) (xs[j].getD 1 0) ρ ρ1 c) : Joined n xs (j + 1) ρ1 := by
  intro t ht htj a b ha hb ea eb
  by_cases h1 : t < j
  · have := h t ht h1 a b ha hb ea eb
    rcases hr with ⟨_, _, rfl⟩ | ⟨i', j', _, _, _, _, _, rfl⟩
    · exact this
    · exact joinN_keep this
  · obtain rfl : t = j := by omega
    rcases hr with ⟨hbad, _, rfl⟩ | ⟨i', j', e1, e2, _, _, _, rfl⟩
    · omega
    · obtain rfl : a = i' := by omega
      obtain rfl : b = j' := by omega
      exact joinN_eq _ _ _

section
variable {w : World} {p : Value} {F : Nat → Prop} {ρ : Nat → Nat} {k : Nat}

theorem uniFindK (h : UniI w p F ρ (seqI k)) {z : Nat} (hz : z < k) :
    Calls Try.prog 18 #[p, .int .i64 z] w fun e w' => e = .returned (.tuple #[.int .i64 (ρ z : Int), .int .i64 0]) ∧ UniI w' p F ρ (seqI k) ∧ Kept F w w' := by
  refine (uniFindI h z).mono ?_
  rintro e w' (⟨hb, _⟩ | ⟨j, hj, _, rfl, hu, hk⟩)
  · rw [seqI_length] at hb; omega
  · obtain rfl : j = z := by omega
    exact ⟨rfl, hu, hk⟩

theorem uniGetK (h : UniI w p F ρ (seqI k)) {z : Nat} (hz : z < k) :
    Calls Try.prog 19 #[p, .int .i64 z] w fun e w' => e = .returned (.tuple #[.int .i64 (ρ z : Int), .int .i64 0]) ∧ UniI w' p F ρ (seqI k) ∧ Kept F w w' := by
  refine (uniGetI h z).mono ?_
  rintro e w' (⟨hb, _⟩ | ⟨j, x, hj, hjl, hx, rfl, hu, hk⟩)
  · rw [seqI_length] at hb; omega
  · obtain rfl : j = z := by omega
    have hle := h.le hjl
    obtain rfl : x = (ρ j : Int) := by
      simp only [seqI, List.getElem?_map, Option.map_eq_some_iff] at hx
      obtain ⟨y, hy, rfl⟩ := hx
      rw [List.getElem?_range (by omega)] at hy
      simp at hy
      rw [hy]
    exact ⟨rfl, hu, hk⟩

theorem uniClassK (h : UniI w p F ρ (seqI k)) {z : Nat} (hz : z < k) (hk : k ≤ 60) :
    Calls Try.prog 14 #[p, .int .i64 z] w fun e w' => ∃ v, e = .returned (.tuple #[v, .int .i64 0]) ∧ UniI w' p F ρ (seqI k) ∧ Kept F w w' ∧
      Own w' 3 1 v (mem0 k ρ (ρ z)).length (cellsOf encI ((mem0 k ρ (ρ z)).map fun (t : Nat) => (t : Int))) ∧ ∀ b, v.ownBlock = some b → w.heap.size ≤ b := by
  refine (uniClassI h z (by rw [seqI_length]; omega)).mono ?_
  rintro e w' (⟨hb, _⟩ | ⟨j, v, hj, hjl, rfl, hu, hkk, ho, hn⟩)
  · rw [seqI_length] at hb; omega
  · obtain rfl : j = z := by omega
    rw [clsOf_map, List.length_map, seqI_length] at ho
    exact ⟨v, rfl, hu, hkk, ho, hn⟩

theorem uniMem (h : UniI w p F ρ (seqI k)) {z : Nat} (hz : z < k) : ρ z < k ∧ ρ (ρ z) = ρ z ∧ 0 < (mem0 k ρ (ρ z)).length ∧ (mem0 k ρ (ρ z))[0]? = some (ρ z) ∧ ∀ t ∈ mem0 k ρ (ρ z), t < k ∧ ρ t = ρ z := by
  have hle : ∀ j, j < k → ρ j ≤ j := fun j hj => h.le (by rw [seqI_length]; exact hj)
  have h1 := hle z hz
  have h2 := h.idem (j := z) (by rw [seqI_length]; exact hz)
  exact ⟨by omega, h2, mem0_pos hz, by rw [List.getElem?_eq_getElem (mem0_pos hz)]; exact congrArg some (mem0_head (by omega) h2 hle _), fun t ht => mem_mem0.1 ht⟩

end

set_option maxRecDepth 100000 in
set_option maxHeartbeats 4000000 in
theorem unionClasses_walk (n : Int) (v : Value) (xs : List (List Int)) (w : World) (hx : RdRows w 2 v xs) (hreach : xs.length * 16 ≤ 140737488351232) :
    Calls Try.prog 4 #[.int .i64 n, v] w fun e w' => e = .returned (.bool true) ∧ Below w.heap.size w w' := by
  obtain ⟨a, c, rfl, ka1, ka2, ka3⟩ := hx.shape
  have HX := Lib.hid hx
  have KA := Lib.hid ka3
  clear hx ka3
  unfold maxLen at ka2
  by_cases hn0 : n < 0
  · go_enter Try.func4, Try.ntmps4
    go_wp2_with fail
    refine (wakes_any w).mono ?_
    rintro e w1 ⟨rfl, hb1⟩
    go_wp2
    go_ret
    exact ⟨rfl, hb1⟩
  by_cases hn1 : 60 < n
  · go_enter Try.func4, Try.ntmps4
    go_wp2_with fail
    refine (wakes_any w).mono ?_
    rintro e w1 ⟨rfl, hb1⟩
    go_wp2
    go_ret
    exact ⟨rfl, hb1⟩
  obtain ⟨n, rfl⟩ := Int.eq_ofNat_of_zero_le (show 0 ≤ n by omega)
  have hn30 : n ≤ 60 := by omega
  have hd0 : decide ((n : Int) < 0) = false := by simp
  have hd1 : decide (60 < (n : Int)) = false := by simp; omega
  by_cases hx1 : 1000 < xs.length
  · have hd2 : decide (1000 < (xs.length : Int)) = true := by simp; omega
    go_enter Try.func4, Try.ntmps4
    go_wp2_with fail
    refine (wakes_any w).mono ?_
    rintro e w1 ⟨rfl, hb1⟩
    go_wp2
    go_ret
    exact ⟨rfl, hb1⟩
  have hd2 : decide (1000 < xs.length) = false := by simp; omega
  have hd3 : decide (1000 < (xs.length : Int)) = false := by simp; omega
  go_enter Try.func4, Try.ntmps4
  go_wp2_with fail
  refine (wakes_any w).mono ?_
  rintro e w1 ⟨rfl, hb1⟩
  go_wp2_with fail
  refine (uniNewI w1).mono ?_
  rintro e w2 ⟨rfl, hI0, hk0⟩
  obtain ⟨sb, hsb⟩ : ∃ sb, sb = w1.heap.size := ⟨_, rfl⟩
  have hxl : xs.length ≤ 1000 := by omega
  have hb2 := below_step hb1 (Nat.le_refl _) hk0 (fun _ h => h.elim)
  have HS0 : Hid (Below w.heap.size w w2 ∧ ∃ ρ F, UniI w2 (.pointer (some ⟨sb, 0, none⟩)) F ρ (seqI 0) ∧ ∀ b, F b → w.heap.size ≤ b) := Lib.hid ⟨hb2, id, _, by rw [hsb]; exact hI0, fun b h => by have := hb1.size; omega⟩
  rw [← hsb]
  clear hI0 hk0 hb1 hb2 hsb hn0 hn1 hx1
  go_wp2_with fail
  clear hd0 hd1 hd2 hd3
  go_loopw [6] (fun i wr => ∃ k : Nat, k ≤ n ∧ i = .int .i64 k ∧ Hid (Below w.heap.size w wr ∧ ∃ ρ F, UniI wr (.pointer (some ⟨sb, 0, none⟩)) F ρ (seqI k) ∧ ∀ b, F b → w.heap.size ≤ b)) (fun i _ => n - (intOf i).toNat)
  case atStart => exact ⟨0, Nat.zero_le _, rfl, HS0⟩
  case round =>
    clear HS0
    obtain ⟨k, hk, rfl, hH⟩ := hrel
    obtain ⟨hb, ρ, F, hU, hF⟩ := hH.out
    by_cases hlt : k < n
    · have HT24 : Hid (Fits ((seqI k).length + 1) 24) := Lib.hid (fits_of (by rw [seqI_length]; omega) (by decide))
      have HB := Lib.hid hb
      have HU := Lib.hid hU
      have HF := Lib.hid hF
      clear hb hU hF hH
      go_wp2_with fail
      refine (uniAddI HU.out (k : Int) HT24.out).mono ?_
      rintro e w4 ⟨rfl, F', h4, k4, f4⟩
      rw [← seqI_succ] at h4
      have Q : Hid (Below w.heap.size w w4 ∧ ∃ ρ F, UniI w4 (.pointer (some ⟨sb, 0, none⟩)) F ρ (seqI (k + 1)) ∧ ∀ b, F b → w.heap.size ≤ b) := Lib.hid
        ⟨below_step HB.out (Nat.le_refl _) k4 HF.out, _, F', h4, fun b h => (f4 b h).elim (HF.out b) (fun h => Nat.le_trans HB.out.size h)⟩
      clear h4 k4 f4
      rw [seqI_length]
      go_wp2
      go_roundw
      case rel => exact ⟨k + 1, by omega, by go_num, Q⟩
      case measure => simp [intOf]; omega
    · obtain rfl : k = n := by omega
      have HQ : Hid (Below w.heap.size w wr ∧ ∃ ρ, UniI wr (.pointer (some ⟨sb, 0, none⟩)) F ρ (seqI k) ∧ Joined k xs 0 ρ) := Lib.hid ⟨hb, ρ, hU, fun t _ h => by omega⟩
      have HF := Lib.hid hF
      clear hH hb hU hF hlt hk
      go_wp2_with fail
      go_loopw [9] (fun i wr => ∃ j : Nat, j ≤ xs.length ∧ i = .int .i64 j ∧ Hid (Below w.heap.size w wr ∧ ∃ ρ, UniI wr (.pointer (some ⟨sb, 0, none⟩)) F ρ (seqI k) ∧ Joined k xs j ρ)) (fun i _ => xs.length - (intOf i).toNat)
      case atStart => exact ⟨0, Nat.zero_le _, rfl, HQ⟩
      case round =>
        clear HQ
        obtain ⟨j, hj, rfl, hH⟩ := hrel
        obtain ⟨hb, ρ, hU, hJ⟩ := hH.out
        by_cases hlt : j < xs.length
        · cases a with
          | none => exact absurd (KA.out rfl).1 (by omega)
          | some ad =>
            have cx := (HX.out.later hb).cell hlt (j := 0) (by omega)
            have cy := (HX.out.later hb).cell' hlt (j := 1) (by omega) (by omega)
            simp only [Nat.add_zero] at cx
            have HST := Lib.hid (fun (ρ1 : Nat → Nat) (c : Int) (h : JR k (xs[j].getD 0 0) (xs[j].getD 1 0) ρ ρ1 c) => hJ.step hlt h)
            generalize hex1 : xs[j].getD 0 0 = x at cx HST
            generalize hex2 : xs[j].getD 1 0 = y at cy HST
            have HB := Lib.hid hb
            have HU := Lib.hid hU
            have hw2 : (j : Int) < (xs.length : Int) := by omega
            have hw3 : (0 : Int) ≤ (j : Int) := by omega
            clear hb hU hH hJ
            go_wp2_with fail
            go_still_tail 11, (by kernel_rfl)
            change wpList _ _ _ _ _ wr.drew
            have HU2 : Hid (UniI wr.drew (.pointer (some ⟨sb, 0, none⟩)) F ρ (seqI k)) := Lib.hid (HU.out.frame ((Kept.refl (fun _ => False) wr).drew) (fun _ _ => id))
            have HB2 : Hid (Below w.heap.size w wr.drew) := Lib.hid (HB.out.drew)
            have hex : ∀ w' : World, Below w.heap.size w w' → w'.cell? (ad.add (j * 2)) = some (.int .i64 x) ∧ w'.cell? ⟨(ad.add (j * 2)).block, (ad.add (j * 2)).off + 1, none⟩ = some (.int .i64 y) := fun w' hb' => by
              have e1 := (HX.out.later hb').cell hlt (j := 0) (by omega)
              have e2 := (HX.out.later hb').cell' hlt (j := 1) (by omega) (by omega)
              rw [Nat.add_zero, hex1] at e1
              rw [hex2] at e2
              exact ⟨e1, e2⟩
            have HEX := Lib.hid hex
            clear cx cy hex HU HB hex1 hex2
            generalize wr.drew = wd at HU2 HB2 ⊢
            go_wp2_with fail
            refine (uniJR HU2.out x y).mono ?_
            rintro e w4 ⟨ρ1, c1, rfl, hj1, h4, k4⟩
            have B4 := Lib.hid (below_step HB2.out (Nat.le_refl _) k4 HF.out)
            have Q : Hid (Below w.heap.size w w4 ∧ ∃ ρ, UniI w4 (.pointer (some ⟨sb, 0, none⟩)) F ρ (seqI k) ∧ Joined k xs (j + 1) ρ) := Lib.hid ⟨B4.out, ρ1, h4, HST.out ρ1 c1 (by rw [seqI_length] at hj1; exact hj1)⟩
            obtain ⟨cx, cy⟩ := HEX.out w4 B4.out
            rw [seqI_length] at hj1
            clear h4 k4 HST HEX HU2 HB2
            rcases hj1 with ⟨hbad, rfl, _⟩ | ⟨i1, j1, rfl, rfl, hi1, hj1, rfl, _⟩
            · clear B4
              by_cases b1 : x < 0
              · have d1 : decide (0 ≤ x) = false := by simp; omega
                clear hbad
                go_wp2
                go_roundw
                case rel => exact ⟨j + 1, by omega, by go_num, Q⟩
                case measure => simp [intOf]; omega
              · have d1 : decide (0 ≤ x) = true := by simp; omega
                by_cases b2 : (k : Int) ≤ x
                · have d2 : decide (x < (k : Int)) = false := by simp; omega
                  clear hbad
                  go_wp2
                  go_roundw
                  case rel => exact ⟨j + 1, by omega, by go_num, Q⟩
                  case measure => simp [intOf]; omega
                · have d2 : decide (x < (k : Int)) = true := by simp; omega
                  by_cases b3 : y < 0
                  · have d3 : decide (0 ≤ y) = false := by simp; omega
                    clear hbad
                    go_wp2
                    go_roundw
                    case rel => exact ⟨j + 1, by omega, by go_num, Q⟩
                    case measure => simp [intOf]; omega
                  · have d3 : decide (0 ≤ y) = true := by simp; omega
                    have d4 : decide (y < (k : Int)) = false := by simp; omega
                    clear hbad
                    go_wp2
                    go_roundw
                    case rel => exact ⟨j + 1, by omega, by go_num, Q⟩
                    case measure => simp [intOf]; omega
            · clear B4
              have d2 : decide (i1 < k) = true := by simp; omega
              have d4 : decide (j1 < k) = true := by simp; omega
              have d1 : decide (0 ≤ (i1 : Int)) = true := by simp
              have d3 : decide (0 ≤ (j1 : Int)) = true := by simp
              go_wp2
              go_roundw
              case rel => exact ⟨j + 1, by omega, by go_num, Q⟩
              case measure => simp [intOf]; omega
        · obtain rfl : j = xs.length := by omega
          have HJ := Lib.hid hJ
          have HQ : Hid (Below w.heap.size w wr ∧ UniI wr (.pointer (some ⟨sb, 0, none⟩)) F ρ (seqI k)) := Lib.hid ⟨hb, hU⟩
          clear hH hb hU hJ hlt hj
          go_wp2_with fail
          go_loopw [12, 13] (fun cn i wr => ∃ t : Nat, t ≤ k ∧ i = .int .i64 t ∧ cn = .int .i64 (roots t ρ : Int) ∧ Hid (Below w.heap.size w wr ∧ UniI wr (.pointer (some ⟨sb, 0, none⟩)) F ρ (seqI k))) (fun _ i _ => k - (intOf i).toNat)
          case atStart => exact ⟨0, Nat.zero_le _, rfl, rfl, HQ⟩
          case round =>
            clear HQ
            obtain ⟨t, ht, rfl, rfl, hH⟩ := hrel
            obtain ⟨hB, hU⟩ := hH.out
            by_cases hltk : t < k
            · have htk : (t : Int) < (k : Int) := by omega
              have HB := Lib.hid hB
              have HU := Lib.hid hU
              have HA := Lib.hid (uniMem hU hltk)
              have HLT := Lib.hid hltk
              have hrl := roots_le t ρ
              have HRS := Lib.hid (roots_step (k := t) ρ)
              generalize roots t ρ = r at hrl HRS ⊢
              have hr1 : IntKind.i64.wrap ((r : Int) + 1) = (r : Int) + 1 := IntWalk.i64_in _ (by omega)
              clear hB hU hH
              go_wp2_with fail
              refine (uniClassK HU.out HLT.out hn30).mono ?_
              rintro e w3 ⟨v3, rfl, u3, k3, o3, n3⟩
              have HTM0 : Hid (t ∈ mem0 k ρ (ρ t)) := Lib.hid (mem_mem0.2 ⟨HLT.out, rfl⟩)
              have HLP : Hid ((mem0 k ρ (ρ t)).Pairwise (· < ·)) := Lib.hid (mem0_lt _ _ _)
              have HLL : Hid ((mem0 k ρ (ρ t)).length ≤ 60) := Lib.hid (by
                have h1 := clsLeI k ρ (ρ t)
                rw [clsOf_map, List.length_map] at h1
                omega)
              generalize mem0 k ρ (ρ t) = L at HA o3 HTM0 HLP HLL
              obtain ⟨g, off, c3, rfl, p1, p2, hcl, _, hg⟩ := o3.elt HA.out.2.2.1
              have hnf : ∀ b, (Value.slice (some ⟨g, off, none⟩) L.length c3).ownBlock = some b → ¬ F b := fun b hb hf => by have := n3 b hb; have := HU.out.lt hf; omega
              have HNF := Lib.hid hnf
              have HB3 := Lib.hid (below_step HB.out (Nat.le_refl _) k3 HF.out)
              have U3 := Lib.hid u3
              have O3 := Lib.hid o3
              clear u3 k3 o3 n3 hcl hg hnf HB HU
              have hll := HLL.out
              go_wp2_with fail
              refine (uniFindK U3.out HLT.out).mono ?_
              rintro e w4 ⟨rfl, u4, k4⟩
              have O4 := Lib.hid (O3.out.frame k4 (fun b hb hf => HNF.out b hb hf))
              have H4 : Hid (Below w.heap.size w w4 ∧ UniI w4 (.pointer (some ⟨sb, 0, none⟩)) F ρ (seqI k) ∧ Own w4 3 1 (.slice (some ⟨g, off, none⟩) L.length c3) L.length (cellsOf encI (L.map fun (t : Nat) => (t : Int)))) :=
                Lib.hid ⟨below_step HB3.out (Nat.le_refl _) k4 HF.out, u4, O4.out⟩
              clear u4 k4 HB3 U3 O3
              have hL0 : 0 < L.length := HA.out.2.2.1
              have d0 : w4.cell? ⟨g, off, none⟩ = some (.int .i64 (ρ t : Int)) := by
                obtain ⟨g', off', cap', hv', _, _, hcl, _, _⟩ := O4.out.elt hL0
                simp only [Value.slice.injEq, Option.some.injEq, Addr.mk.injEq, true_and, and_true] at hv'
                obtain ⟨⟨rfl, rfl⟩, rfl⟩ := hv'
                have := hcl 0 (.int .i64 (ρ t : Int)) (by rw [cellsOf_encI, List.map_map, List.getElem?_map, HA.out.2.2.2.1]; rfl)
                simpa using this
              have hne : (L.length == 0) = false := beq_eq_false_iff_ne.2 (by omega)
              have hne2 : ((L.length : Int) == 0) = false := beq_eq_false_iff_ne.2 (by omega)
              have hL1 : (0 : Int) < (L.length : Int) := by omega
              generalize hae : ρ t = a at HA HRS d0 ⊢
              have HA2 : Hid (a < k) := Lib.hid HA.out.1
              have HA : Hid (True ∧ True ∧ True ∧ ∀ t ∈ L, t < k ∧ ρ t = a) := Lib.hid ⟨trivial, trivial, trivial, HA.out.2.2.2.2⟩
              clear O4
              rcases Decidable.em (a = t) with hat | hat
              case' inl =>
                have hb : ((a : Int) == (t : Int)) = true := by simp; omega
                have HRR : Hid ((roots (t + 1) ρ : Int) = (r : Int) + 1) := Lib.hid (by rw [HRS.out, if_pos hat]; rfl)
                clear HRS hat
                go_wp2_with fail
                generalize (r : Int) + 1 = rr at HRR ⊢
              case' inr =>
                have hb : ((a : Int) == (t : Int)) = false := by simp; omega
                have HRR : Hid ((roots (t + 1) ρ : Int) = (r : Int)) := Lib.hid (by rw [HRS.out, if_neg hat]; rfl)
                clear HRS hat
                go_wp2_with fail
                generalize (r : Int) = rr at HRR ⊢
              all_goals
                go_loopw [18, 19] (fun own i wr => ∃ j : Nat, j ≤ L.length ∧ i = .int .i64 j ∧ own = .bool (decide (t ∈ L.take j)) ∧ Hid (Below w.heap.size w wr ∧ UniI wr (.pointer (some ⟨sb, 0, none⟩)) F ρ (seqI k) ∧ Own wr 3 1 (.slice (some ⟨g, off, none⟩) L.length c3) L.length (cellsOf encI (L.map fun (t : Nat) => (t : Int))))) (fun _ i _ => L.length - (intOf i).toNat)
                case atStart => exact ⟨0, Nat.zero_le _, rfl, by simp, H4⟩
                case round =>
                  obtain ⟨j, hj, rfl, rfl, hH⟩ := hrel
                  obtain ⟨hB, hU, hO⟩ := hH.out
                  by_cases hlj : j < L.length
                  · obtain ⟨g', off', cap', hv', _, _, hcl, _, _⟩ := hO.elt (by omega)
                    simp only [Value.slice.injEq, Option.some.injEq, Addr.mk.injEq, true_and, and_true] at hv'
                    obtain ⟨⟨rfl, rfl⟩, rfl⟩ := hv'
                    have d0 : wr.cell? ⟨g, off + j, none⟩ = some (.int .i64 (L[j] : Int)) := hcl j _ (by rw [cellsOf_encI]; simp [hlj])
                    have hjc : (j : Int) < (L.length : Int) := by omega
                    have HTM := Lib.hid (take_mem (i := t) hlj)
                    have HZ := Lib.hid (HA.out.2.2.2 _ (List.getElem_mem hlj))
                    have hat : ∀ q (hq : q < L.length) (w' : World), Own w' 3 1 (.slice (some ⟨g, off, none⟩) L.length c3) L.length (cellsOf encI (L.map fun (t : Nat) => (t : Int))) → w'.cell? ⟨g, off + q, none⟩ = some (.int .i64 ((L[q] : Nat) : Int)) := fun q hq w' ho => by
                      obtain ⟨g', off', cap', hv', _, _, hcl, _, _⟩ := ho.elt (by omega)
                      simp only [Value.slice.injEq, Option.some.injEq, Addr.mk.injEq, true_and, and_true] at hv'
                      obtain ⟨⟨rfl, rfl⟩, rfl⟩ := hv'
                      exact hcl q _ (by rw [cellsOf_encI]; simp [hq])
                    have HKK : Hid (∀ q, q + 1 = j → ∃ y : Nat, y < L[j] ∧ ∀ (w' : World), Own w' 3 1 (.slice (some ⟨g, off, none⟩) L.length c3) L.length (cellsOf encI (L.map fun (t : Nat) => (t : Int))) → w'.cell? ⟨g, off + q, none⟩ = some (.int .i64 (y : Int))) :=
                      Lib.hid (fun q h => ⟨L[q]'(by omega), List.pairwise_iff_getElem.1 HLP.out q j (by omega) hlj (by omega), hat q (by omega)⟩)
                    have HK0 := Lib.hid (hat j hlj)
                    have HB := Lib.hid hB
                    have HU := Lib.hid hU
                    have HO := Lib.hid hO
                    have HLJ := Lib.hid hlj
                    generalize hzz : L[j] = z at d0 HTM HZ HKK HK0
                    clear hB hU hO hH hcl hat hlj hj hzz
                    go_wp2_with fail
                    refine (uniFindK HU.out HZ.out.1).mono ?_
                    rintro e w6 ⟨rfl, u6, k6⟩
                    rw [HZ.out.2]
                    have O6 := Lib.hid (HO.out.frame k6 (fun b hb hf => HNF.out b hb hf))
                    have HB6 := Lib.hid (below_step HB.out (Nat.le_refl _) k6 HF.out)
                    have HU6 := Lib.hid u6
                    have d1 := HK0.out w6 O6.out
                    clear d0 u6 k6 HK0
                    have D2 : Hid (∀ n, Below w.heap.size w { w6 with drawn := w6.drawn + n } ∧ UniI { w6 with drawn := w6.drawn + n } (.pointer (some ⟨sb, 0, none⟩)) F ρ (seqI k) ∧ Own { w6 with drawn := w6.drawn + n } 3 1 (.slice (some ⟨g, off, none⟩) L.length c3) L.length (cellsOf encI (L.map fun (t : Nat) => (t : Int)))) := Lib.hid fun n =>
                      have kk := (Kept.refl (fun _ => False) w6).drewN n
                      ⟨below_step HB6.out (Nat.le_refl _) kk (fun _ h => h.elim), HU6.out.frame kk (fun _ _ => id), O6.out.frame kk (fun _ _ => id)⟩
                    rcases Nat.eq_zero_or_pos j with hj0 | hjp
                    · subst hj0
                      clear HKK
                      rw [Nat.add_zero] at d1
                      go_wp2_with fail
                      go_quiet (fail)
                      have D3 : Hid (Below w.heap.size w (w6.drewN nq) ∧ UniI (w6.drewN nq) (.pointer (some ⟨sb, 0, none⟩)) F ρ (seqI k) ∧ Own (w6.drewN nq) 3 1 (.slice (some ⟨g, off, none⟩) L.length c3) L.length (cellsOf encI (L.map fun (t : Nat) => (t : Int)))) := Lib.hid (D2.out nq)
                      have e1 : (w6.drewN nq).cell? ⟨g, off, none⟩ = some (.int .i64 (z : Int)) := d1
                      have htm := HTM.out
                      clear d1 D2 O6 HB6 HU6
                      generalize w6.drewN nq = wq at D3 e1 ⊢
                      by_cases hzt : z = t
                      case pos =>
                        have hb : ((z : Int) == (t : Int)) = true := by simp; omega
                        rw [decide_eq_true hzt, Bool.or_true] at htm
                        go_wp2
                        go_roundw
                        case rel => exact ⟨0 + 1, by have := HLJ.out; omega, by go_num, by rw [htm], D3⟩
                        case measure => have := HLJ.out; simp [intOf]; omega
                      case neg =>
                        have hb : ((z : Int) == (t : Int)) = false := by simp; omega
                        rw [decide_eq_false hzt, Bool.or_false] at htm
                        go_wp2
                        go_roundw
                        case rel => exact ⟨0 + 1, by have := HLJ.out; omega, by go_num, by rw [htm]; simp, D3⟩
                        case measure => have := HLJ.out; simp [intOf]; omega
                    · obtain ⟨q, rfl⟩ : ∃ q, j = q + 1 := ⟨j - 1, by omega⟩
                      obtain ⟨y, hyz, hyc⟩ := HKK.out q rfl
                      have d2 := hyc w6 O6.out
                      have d3 : decide ((z : Int) ≤ (y : Int)) = false := by simp; omega
                      have d4 : (q : Int) < (L.length : Int) := by omega
                      have d5 : decide (0 < (q : Int) + 1) = true := decide_eq_true (by omega)
                      have d6 : IntKind.i64.wrap ((q : Int) + 1 - 1) = (q : Int) := by rw [IntWalk.i64_in _ (by omega)]; omega
                      clear HKK hyc
                      go_wp2_with fail
                      go_quiet (fail)
                      clear d2 d3
                      have D3 : Hid (Below w.heap.size w (w6.drewN nq) ∧ UniI (w6.drewN nq) (.pointer (some ⟨sb, 0, none⟩)) F ρ (seqI k) ∧ Own (w6.drewN nq) 3 1 (.slice (some ⟨g, off, none⟩) L.length c3) L.length (cellsOf encI (L.map fun (t : Nat) => (t : Int)))) := Lib.hid (D2.out nq)
                      have e1 : (w6.drewN nq).cell? ⟨g, off + (q + 1), none⟩ = some (.int .i64 (z : Int)) := d1
                      have htm := HTM.out
                      clear d1 D2 O6 HB6 HU6
                      generalize w6.drewN nq = wq at D3 e1 ⊢
                      by_cases hzt : z = t
                      case pos =>
                        have hb : ((z : Int) == (t : Int)) = true := by simp; omega
                        rw [decide_eq_true hzt, Bool.or_true] at htm
                        rcases Bool.eq_false_or_eq_true (decide (t ∈ L.take (q + 1))) with ho | ho <;> rw [ho]
                        all_goals
                          go_wp2
                          go_roundw
                          case rel => exact ⟨(q + 1) + 1, by have := HLJ.out; omega, by go_num, by rw [htm], D3⟩
                          case measure => have := HLJ.out; simp [intOf]; omega
                      case neg =>
                        have hb : ((z : Int) == (t : Int)) = false := by simp; omega
                        rw [decide_eq_false hzt, Bool.or_false] at htm
                        rcases Bool.eq_false_or_eq_true (decide (t ∈ L.take (q + 1))) with ho | ho <;> rw [ho] at htm ⊢
                        all_goals
                          go_wp2
                          go_roundw
                          case rel => exact ⟨(q + 1) + 1, by have := HLJ.out; omega, by go_num, by rw [htm], D3⟩
                          case measure => have := HLJ.out; simp [intOf]; omega
                  · obtain rfl : j = L.length := by omega
                    have htl : decide (t ∈ L.take L.length) = true := by rw [List.take_length]; exact decide_eq_true HTM0.out
                    rw [htl]
                    have HB := Lib.hid hB
                    have HU := Lib.hid hU
                    clear hB hU hO hH hj hlj htl
                    go_wp2_with fail
                    refine (uniGetK HU.out HLT.out).mono ?_
                    rintro e w6 ⟨rfl, u6, k6⟩
                    rw [hae]
                    have Q : Hid (Below w.heap.size w w6 ∧ UniI w6 (.pointer (some ⟨sb, 0, none⟩)) F ρ (seqI k)) := Lib.hid ⟨below_step HB.out (Nat.le_refl _) k6 HF.out, u6⟩
                    clear u6 k6
                    go_wp2
                    go_roundw
                    case rel => exact ⟨t + 1, by have := HLT.out; omega, by go_num, by rw [HRR.out], Q⟩
                    case measure => have := HLT.out; simp [intOf]; omega
            · obtain rfl : t = k := by omega
              have HQ : Hid (Below w.heap.size w wr ∧ UniI wr (.pointer (some ⟨sb, 0, none⟩)) F ρ (seqI t)) := Lib.hid ⟨hB, hU⟩
              clear hB hU hH hltk ht
              go_wp2_with fail
              go_loopw [24] (fun i wr => ∃ j : Nat, j ≤ xs.length ∧ i = .int .i64 j ∧ Hid (Below w.heap.size w wr ∧ UniI wr (.pointer (some ⟨sb, 0, none⟩)) F ρ (seqI t))) (fun i _ => xs.length - (intOf i).toNat)
              case atStart => exact ⟨0, Nat.zero_le _, rfl, HQ⟩
              case round =>
                clear HQ
                obtain ⟨j, hj, rfl, hH⟩ := hrel
                obtain ⟨hB, hU⟩ := hH.out
                by_cases hlj : j < xs.length
                · cases a with
                  | none => exact absurd (KA.out rfl).1 (by omega)
                  | some ad =>
                    have cx := (HX.out.later hB).cell hlj (j := 0) (by omega)
                    simp only [Nat.add_zero] at cx
                    have hey : ∀ w' : World, Below w.heap.size w w' → w'.cell? ⟨(ad.add (j * 2)).block, (ad.add (j * 2)).off + 1, none⟩ = some (.int .i64 (xs[j].getD 1 0)) := fun w' hb' => (HX.out.later hb').cell' hlj (j := 1) (by omega) (by omega)
                    have HEY := Lib.hid hey
                    have HXY := Lib.hid (HJ.out j hlj hlj)
                    generalize hex1 : xs[j].getD 0 0 = x at cx HXY
                    generalize hex2 : xs[j].getD 1 0 = y at HEY HXY
                    have HB := Lib.hid hB
                    have HU := Lib.hid hU
                    have hw2 : (j : Int) < (xs.length : Int) := by omega
                    clear hB hU hH hey hex1 hex2
                    go_wp2_with fail
                    refine (uniFindI HU.out x).mono ?_
                    rintro e w3 (⟨_, rfl, rfl⟩ | ⟨x1, rfl, hx1, rfl, u3, k3⟩)
                    · have cy := HEY.out wr HB.out
                      clear cx
                      go_wp2_with fail
                      refine (uniFindI HU.out y).mono ?_
                      rintro e w4 (⟨_, rfl, rfl⟩ | ⟨y1, rfl, hy1, rfl, u4, k4⟩)
                      · have Q : Hid (Below w.heap.size w wr ∧ UniI wr (.pointer (some ⟨sb, 0, none⟩)) F ρ (seqI t)) := Lib.hid ⟨HB.out, HU.out⟩
                        clear cy
                        go_wp2
                        go_roundw
                        case rel => exact ⟨j + 1, by omega, by go_num, Q⟩
                        case measure => simp [intOf]; omega
                      · have Q : Hid (Below w.heap.size w w4 ∧ UniI w4 (.pointer (some ⟨sb, 0, none⟩)) F ρ (seqI t)) := Lib.hid ⟨below_step HB.out (Nat.le_refl _) k4 HF.out, u4⟩
                        clear cy u4 k4 hy1
                        go_wp2
                        go_roundw
                        case rel => exact ⟨j + 1, by omega, by go_num, Q⟩
                        case measure => simp [intOf]; omega
                    · have HB3 := Lib.hid (below_step HB.out (Nat.le_refl _) k3 HF.out)
                      have HU3 := Lib.hid u3
                      have HX1 := Lib.hid hx1
                      have cy := HEY.out w3 HB3.out
                      clear cx u3 k3 HU HB HEY hx1
                      go_wp2_with fail
                      refine (uniFindI HU3.out y).mono ?_
                      rintro e w4 (⟨_, rfl, rfl⟩ | ⟨y1, rfl, hy1, rfl, u4, k4⟩)
                      · have Q : Hid (Below w.heap.size w w3 ∧ UniI w3 (.pointer (some ⟨sb, 0, none⟩)) F ρ (seqI t)) := Lib.hid ⟨HB3.out, HU3.out⟩
                        clear cy
                        go_wp2
                        go_roundw
                        case rel => exact ⟨j + 1, by omega, by go_num, Q⟩
                        case measure => simp [intOf]; omega
                      · have Q : Hid (Below w.heap.size w w4 ∧ UniI w4 (.pointer (some ⟨sb, 0, none⟩)) F ρ (seqI t)) := Lib.hid ⟨below_step HB3.out (Nat.le_refl _) k4 HF.out, u4⟩
                        have heq : ρ x1 = ρ y1 := HXY.out x1 y1 (by have := HX1.out; rw [seqI_length] at this; exact this) (by rw [seqI_length] at hy1; exact hy1) rfl rfl
                        rw [← heq]
                        have hcc : ((ρ x1 : Int) != (ρ x1 : Int)) = false := by simp
                        clear cy u4 k4 hy1 heq
                        go_wp2
                        go_roundw
                        case rel => exact ⟨j + 1, by omega, by go_num, Q⟩
                        case measure => simp [intOf]; omega
                · have HB := Lib.hid hB
                  have HU := Lib.hid hU
                  clear hB hU hH
                  go_wp2_with fail
                  refine (uniCountI HU.out).mono ?_
                  rintro e w' ⟨rfl, rfl⟩
                  rw [seqI_length]
                  go_wp2_with fail
                  refine (uniLenI HU.out).mono ?_
                  rintro e w' ⟨rfl, rfl⟩
                  rw [seqI_length]
                  go_wp2
                  go_ret
                  exact ⟨by simp, HB.out⟩

set_option maxRecDepth 100000 in
theorem unionClasses_calls : LawCalls Try.prog 4 Try.f4 := by
  intro H enc W args ds ps hval hA hsz
  rw [Try.params4] at hA hval hsz
  obtain ⟨v0, v1, d0, d1, p0, p1, rfl, rfl, _, h0, h1⟩ := trodAll_two hA
  obtain ⟨base0, hok0⟩ := hval 0 _ v0 rfl rfl
  obtain ⟨base1, hok1⟩ := hval 1 _ v1 rfl rfl
  obtain ⟨n, rfl, _, _, _⟩ := open_int Try.underlying3 hok0 h0
  obtain ⟨xs, hx, _, _, hr⟩ := open_arrays_arg (m0 := 2) Try.underlying22 Try.underlying35 Try.underlying3 (by kernel_rfl) (by kernel_rfl) hok1 h1
  have hb : Try.prog.bytesOf 35 = 16 := by kernel_rfl
  have := hr hsz (j := 1) rfl rfl
  rw [hb] at this
  exact unionClasses_walk n v1 xs W hx this

end Go.Proofs.Ytodklnfdmcadkaa
