/- The walk of UnionApart. -/
import Derived.Test.YtodklnfdmcadkaaArgsA
import Derived.Test.YtodklnfdmcadkaaWakes6
import Derived.Test.YtodklnfdmcadkaaUniAp
namespace Go.Proofs.Ytodklnfdmcadkaa
open Go.ChangeShapes Go.WideShapes Go.ChangeAt Go.RowKit
set_option linter.unusedVariables false
set_option linter.unusedSimpArgs false

/-- The lists vs that were answered, gathered in av; the sets and the reference apart from them. -/
structure Gath (w : World) (B : Nat) (p r : Value) (F G : Nat → Prop) (ρ : Nat → Nat) (n : Nat) (av : Value) (vs : List Value) (Ys : List (List Int)) : Prop where
  uni : UniI w p F ρ (seqI n)
  ref : RUn w r G ρ (seqI n)
  dis : ∀ b, F b → ¬ G b
  fb : ∀ b, F b → B ≤ b
  gb : ∀ b, G b → B ≤ b
  rs : Rs w B (fun b => F b ∨ G b) vs Ys
  own : Own w 27 1 av vs.length vs
  avb : ∀ b, av.ownBlock = some b → B ≤ b ∧ ¬ F b ∧ ¬ G b
  avd : ∀ v ∈ vs, ∀ b, v.ownBlock = some b → av.ownBlock ≠ some b
  short : ∀ Y ∈ Ys, Y.length ≤ n

theorem Gath.step {w w3 w5 w7 : World} {B : Nat} {p r : Value} {F G : Nat → Prop} {ρ : Nat → Nat} {n : Nat} {av av' v : Value} {vs : List Value} {Ys : List (List Int)} {Y : List Int} {o : Obj}
    (h : Gath w B p r F G ρ n av vs Ys) (hB : B ≤ w.heap.size) (u3 : UniI w3 p F ρ (seqI n)) (k3 : Kept F w w3) (o3 : Own w3 3 1 v Y.length (cellsOf encI Y)) (n3 : ∀ b, v.ownBlock = some b → w.heap.size ≤ b) (hY : Y.length ≤ n)
    (k5 : Kept (fun _ => False) w3 w5) (k7 : Kept (fun b => av.ownBlock = some b) (w5.alloc o) w7) (o7 : Own w7 27 1 av' (vs.length + 1) (vs ++ [v])) (b7 : ∀ b, av'.ownBlock = some b → av.ownBlock = some b ∨ (w5.alloc o).heap.size ≤ b) :
    Gath w7 B p r F G ρ n av' (vs ++ [v]) (Ys ++ [Y]) := by
  have k35 : Kept (fun _ => False) w3 (w5.alloc o) := k5.alloc o
  have s1 := k3.size
  have s2 := k5.size
  have hav : ∀ b, av.ownBlock = some b → b < w.heap.size := fun b hb => h.own.lt hb
  have hva : ∀ b, v.ownBlock = some b → ¬ av.ownBlock = some b := fun b h1 h2 => by have := n3 b h1; have := hav b h2; omega
  have hG3 : RUn w3 r G ρ (seqI n) := h.ref.frame k3 (fun b hg hf => h.dis b hf hg)
  have hrs := h.rs.new k3 (fun b h => Or.inl h) (fun b hfg => hfg.elim (fun hf => h.uni.lt hf) (fun hg => h.ref.lt hg)) hB o3 n3
  refine ⟨(u3.frame k35 (fun _ _ => id)).frame k7 (fun b hf ha => (h.avb b ha).2.1 hf), (hG3.frame k35 (fun _ _ => id)).frame k7 (fun b hg ha => (h.avb b ha).2.2 hg), h.dis, h.fb, h.gb, ?_, by simpa using o7, ?_, ?_, ?_⟩
  · have hrs5 := hrs.frame k35 (fun b h => h.elim)
    refine ⟨hrs5.1.frame k7 (fun u hu b hb ha => ?_), hrs5.2.1, hrs5.2.2⟩
    rcases List.mem_append.1 hu with hu | hu
    · exact h.avd u hu b hb ha
    · simp only [List.mem_singleton] at hu
      subst hu
      exact hva b hb ha
  · intro b hb
    rcases b7 b hb with h1 | h1
    · exact h.avb b h1
    · simp at h1
      refine ⟨by omega, fun hf => ?_, fun hg => ?_⟩
      · have := h.uni.lt hf; omega
      · have := h.ref.lt hg; omega
  · intro u hu b hb ha
    rcases b7 b ha with h1 | h1
    · rcases List.mem_append.1 hu with hu | hu
      · exact h.avd u hu b hb h1
      · simp only [List.mem_singleton] at hu
        subst hu
        exact hva b hb h1
    · have := (hrs.frame k35 (fun b h => h.elim)).1.lt hu hb
      simp at h1 this
      omega
  · intro Z hZ
    rcases List.mem_append.1 hZ with hZ | hZ
    · exact h.short Z hZ
    · simp only [List.mem_singleton] at hZ
      subst hZ
      exact hY

theorem sum_short {Ys : List (List Int)} {n : Nat} (h : ∀ Y ∈ Ys, Y.length ≤ n) : (Ys.map List.length).sum ≤ Ys.length * n := by
  induction Ys with
  | nil => simp
  | cons Y Ys ih =>
    have h1 := h Y (by simp)
    have h2 := ih (fun Z hZ => h Z (by simp [hZ]))
    simp only [List.map_cons, List.sum_cons, List.length_cons, Nat.succ_mul]
    omega

set_option maxRecDepth 100000 in
set_option maxHeartbeats 4000000 in
theorem unionApart_walk (n : Int) (v : Value) (xs : List (List Int)) (w : World) (hx : RdRows w 2 v xs) (hreach : xs.length * 16 ≤ 140737488351232) :
    Calls Try.prog 3 #[.int .i64 n, v] w fun e w' => e = .returned (.bool true) ∧ Below w.heap.size w w' := by
  obtain ⟨a, c, rfl, ka1, ka2, ka3⟩ := hx.shape
  have HX := Lib.hid hx
  have KA := Lib.hid ka3
  clear hx ka3
  unfold maxLen at ka2
  by_cases hn0 : n < 0
  · go_enter Try.func3, Try.ntmps3
    go_wp2_with fail
    refine (wakes_any w).mono ?_
    rintro e w1 ⟨rfl, hb1⟩
    go_wp2
    go_ret
    exact ⟨rfl, hb1⟩
  by_cases hn1 : 30 < n
  · go_enter Try.func3, Try.ntmps3
    go_wp2_with fail
    refine (wakes_any w).mono ?_
    rintro e w1 ⟨rfl, hb1⟩
    go_wp2
    go_ret
    exact ⟨rfl, hb1⟩
  obtain ⟨n, rfl⟩ := Int.eq_ofNat_of_zero_le (show 0 ≤ n by omega)
  have hn30 : n ≤ 30 := by omega
  have hd0 : decide ((n : Int) < 0) = false := by simp
  have hd1 : decide (30 < (n : Int)) = false := by simp; omega
  go_enter Try.func3, Try.ntmps3
  go_wp2_with fail
  refine (wakes_any w).mono ?_
  rintro e w1 ⟨rfl, hb1⟩
  go_wp2_with fail
  refine (uniNewI w1).mono ?_
  rintro e w2 ⟨rfl, hI0, hk0⟩
  obtain ⟨sb, hsb⟩ : ∃ sb, sb = w1.heap.size := ⟨_, rfl⟩
  obtain ⟨rb, hrb⟩ : ∃ rb, rb = w2.heap.size := ⟨_, rfl⟩
  have hb2 := below_step hb1 (Nat.le_refl _) hk0 (fun _ h => h.elim)
  have HS0 := Lib.hid (show UA (w2.alloc (.cells #[.slice none 0 0, .slice none 0 0] 29)) w.heap.size (.pointer (some ⟨w1.heap.size, 0, none⟩)) (.pointer (some ⟨w2.heap.size, 0, none⟩)) id [] id [] from
    ⟨fun x => x = w1.heap.size, fun x => x = w2.heap.size, hI0.frame ((Kept.refl (fun _ => False) w2).alloc _) (fun _ _ => id), RUn.made w2, fun x h1 h2 => by have := hI0.lt h1; omega, fun x h => by have := hb1.size; omega, fun x h => by have := hb2.size; omega⟩)
  have HL0 := Lib.hid (hb2.alloc hb2.size (.cells #[.slice none 0 0, .slice none 0 0] 29))
  rw [← hsb] at HS0 ⊢
  clear hI0 hk0 hb1 hb2 hsb hn0 hn1
  go_wp2_with fail
  rw [← hrb] at HS0 ⊢
  clear hrb hd0 hd1
  go_loopw [7] (fun i wr => ∃ k : Nat, k ≤ n ∧ i = .int .i64 k ∧ Hid (Below w.heap.size w wr ∧ ∃ ρ, UA wr w.heap.size (.pointer (some ⟨sb, 0, none⟩)) (.pointer (some ⟨rb, 0, none⟩)) ρ (seqI k) ρ (seqI k))) (fun i _ => n - (intOf i).toNat)
  case atStart => exact ⟨0, Nat.zero_le _, rfl, Lib.hid ⟨HL0.out, id, HS0.out⟩⟩
  case round =>
    obtain ⟨k, hk, rfl, hH⟩ := hrel
    obtain ⟨hb, ρ, hUA⟩ := hH.out
    by_cases hlt : k < n
    · have HT8 : Hid (Fits ((seqI k).length + 1) 8) := Lib.hid (fits_of (by rw [seqI_length]; omega) (by decide))
      have HT24 : Hid (Fits ((seqI k).length + 1) 24) := Lib.hid (fits_of (by rw [seqI_length]; omega) (by decide))
      have HB := Lib.hid hb
      have HU := Lib.hid hUA
      clear hb hUA hH
      go_wp2_with fail
      refine (uaRefAdd HU.out HB.out.size k HT8.out).mono ?_
      rintro e w3 ⟨rfl, h3, k3⟩
      have H3 := Lib.hid h3
      have B3 := Lib.hid (below_step HB.out (Nat.le_refl _) k3 (fun _ h => h))
      clear h3 k3
      go_wp2_with fail
      refine (uaAdd H3.out B3.out.size k HT24.out).mono ?_
      rintro e w4 ⟨rfl, h4, k4⟩
      rw [← seqI_succ] at h4
      have Q := Lib.hid (show Below w.heap.size w w4 ∧ ∃ ρ, UA w4 w.heap.size (.pointer (some ⟨sb, 0, none⟩)) (.pointer (some ⟨rb, 0, none⟩)) ρ (seqI (k + 1)) ρ (seqI (k + 1)) from
        ⟨below_step B3.out (Nat.le_refl _) k4 (fun _ h => h), _, h4⟩)
      clear h4 k4
      go_wp2
      go_roundw
      case rel => exact ⟨k + 1, by omega, by go_num, Q⟩
      case measure => simp [intOf]; omega
    · obtain rfl : k = n := by omega
      have HQ : Hid (Below w.heap.size w wr ∧ ∃ ρ, UA wr w.heap.size (.pointer (some ⟨sb, 0, none⟩)) (.pointer (some ⟨rb, 0, none⟩)) ρ (seqI k) ρ (seqI k)) := Lib.hid ⟨hb, ρ, hUA⟩
      clear hH hb hUA hlt hk
      go_wp2_with fail
      go_loopw [10] (fun i wr => ∃ j : Nat, j ≤ xs.length ∧ i = .int .i64 j ∧ Hid (Below w.heap.size w wr ∧ ∃ ρ, UA wr w.heap.size (.pointer (some ⟨sb, 0, none⟩)) (.pointer (some ⟨rb, 0, none⟩)) ρ (seqI k) ρ (seqI k))) (fun i _ => xs.length - (intOf i).toNat)
      case atStart => exact ⟨0, Nat.zero_le _, rfl, HQ⟩
      case round =>
        clear HQ
        obtain ⟨j, hj, rfl, hH⟩ := hrel
        obtain ⟨hb, ρ, hUA⟩ := hH.out
        by_cases hlt : j < xs.length
        · cases a with
          | none => exact absurd (KA.out rfl).1 (by omega)
          | some ad =>
            have cx := (HX.out.later hb).cell hlt (j := 0) (by omega)
            have cy := (HX.out.later hb).cell' hlt (j := 1) (by omega) (by omega)
            simp only [Nat.add_zero] at cx
            generalize hex1 : xs[j].getD 0 0 = x at cx
            generalize hex2 : xs[j].getD 1 0 = y at cy
            have HB := Lib.hid hb
            have HU := Lib.hid hUA
            have hw2 : (j : Int) < (xs.length : Int) := by omega
            have hw3 : (0 : Int) ≤ (j : Int) := by omega
            clear hb hUA hH
            go_wp2_with fail
            go_still_tail 11, (by kernel_rfl)
            change wpList _ _ _ _ _ wr.drew
            have HX2 : Hid (UA wr.drew w.heap.size (.pointer (some ⟨sb, 0, none⟩)) (.pointer (some ⟨rb, 0, none⟩)) ρ (seqI k) ρ (seqI k)) := Lib.hid (HU.out.kept ((Kept.refl _ wr).drew))
            have HB2 : Hid (Below w.heap.size w wr.drew) := Lib.hid (HB.out.drew)
            have cx2 : wr.drew.cell? (ad.add (j * 2)) = some (.int .i64 x) := cx
            have hex : ∀ w' : World, Below w.heap.size w w' → w'.cell? (ad.add (j * 2)) = some (.int .i64 x) ∧ w'.cell? ⟨(ad.add (j * 2)).block, (ad.add (j * 2)).off + 1, none⟩ = some (.int .i64 y) := fun w' hb' => by
              have e1 := (HX.out.later hb').cell hlt (j := 0) (by omega)
              have e2 := (HX.out.later hb').cell' hlt (j := 1) (by omega) (by omega)
              rw [Nat.add_zero, hex1] at e1
              rw [hex2] at e2
              exact ⟨e1, e2⟩
            have HEX := Lib.hid hex
            clear cx cy cx2 hex HU HB hex1 hex2
            generalize wr.drew = wd at HX2 HB2 ⊢
            go_wp2_with fail
            refine (uaRefJoin HX2.out HB2.out.size x y).mono ?_
            rintro e w4 ⟨ρ1, c1, rfl, hj1, h4, k4⟩
            have H4 := Lib.hid h4
            have HJ1 := Lib.hid hj1
            have B4 := Lib.hid (below_step HB2.out (Nat.le_refl _) k4 (fun _ h => h))
            obtain ⟨cx, cy⟩ := HEX.out w4 B4.out
            clear h4 hj1 k4
            go_wp2_with fail
            go_still_tail 11, (by kernel_rfl)
            change wpList _ _ _ _ _ w4.drew
            have HX5 : Hid (UA w4.drew w.heap.size (.pointer (some ⟨sb, 0, none⟩)) (.pointer (some ⟨rb, 0, none⟩)) ρ (seqI k) ρ1 (seqI k)) := Lib.hid (H4.out.kept ((Kept.refl _ w4).drew))
            have HB5 : Hid (Below w.heap.size w w4.drew) := Lib.hid (B4.out.drew)
            clear cx cy H4 B4
            generalize w4.drew = we at HX5 HB5 ⊢
            go_wp2_with fail
            refine (uaJoin HX5.out HB5.out.size x y).mono ?_
            rintro e w6 ⟨ρ2, c2, rfl, hj2, h6, k6⟩
            obtain ⟨rfl, rfl⟩ := HJ1.out.unique hj2
            have Q : Hid (Below w.heap.size w w6 ∧ ∃ ρ, UA w6 w.heap.size (.pointer (some ⟨sb, 0, none⟩)) (.pointer (some ⟨rb, 0, none⟩)) ρ (seqI k) ρ (seqI k)) := Lib.hid ⟨below_step HB5.out (Nat.le_refl _) k6 (fun _ h => h), _, h6⟩
            clear h6 k6 hj2
            have hcc : (c1 != c1) = false := by simp
            go_wp2
            go_roundw
            case rel => exact ⟨j + 1, by omega, by go_num, Q⟩
            case measure => simp [intOf]; omega
        · obtain rfl : j = xs.length := by omega
          obtain ⟨F, G, hu, hr, hdis, hFb, hGb⟩ := hUA
          have HG0 : Hid (Below w.heap.size w wr ∧ Gath wr w.heap.size (.pointer (some ⟨sb, 0, none⟩)) (.pointer (some ⟨rb, 0, none⟩)) F G ρ k (.slice none 0 0) [] []) :=
            Lib.hid ⟨hb, hu, hr, hdis, hFb, hGb, ⟨RwsIs.nil _, by simp, by simp⟩, Own.nil _ _ _, by simp [Value.ownBlock], by simp, by simp⟩
          have HTR : Hid (∀ m, m ≤ 60 → Fits (m + 1) 24) := Lib.hid fun m hm => fits_of (by omega) (by decide)
          have HT8 : Hid ((seqI k).length * 8 ≤ 140737488355328) := Lib.hid (by rw [seqI_length]; omega)
          clear hH hb hu hr hdis hFb hGb hlt hj
          go_wp2_with fail
          go_loopw [13, 14] (fun av i wr => ∃ m : Nat, m ≤ 2 ∧ i = .int .i64 m ∧ ∃ (a c : _) (vs : List Value) (Ys : List (List Int)), av = .slice a vs.length c ∧ Hid (vs.length = m * k ∧ Below w.heap.size w wr ∧ Gath wr w.heap.size (.pointer (some ⟨sb, 0, none⟩)) (.pointer (some ⟨rb, 0, none⟩)) F G ρ k av vs Ys)) (fun _ i _ => 2 - (intOf i).toNat)
          case atStart => exact ⟨0, by omega, rfl, none, 0, [], [], rfl, Lib.hid ⟨by simp, HG0.out.1, HG0.out.2⟩⟩
          case round =>
            clear HG0
            obtain ⟨m, hm, rfl, a1, c1, vs, Ys, rfl, hH⟩ := hrel
            by_cases hlt : m < 2
            · have HM : Hid (vs.length = m * k + 0 ∧ Below w.heap.size w wr ∧ Gath wr w.heap.size (.pointer (some ⟨sb, 0, none⟩)) (.pointer (some ⟨rb, 0, none⟩)) F G ρ k (.slice a1 vs.length c1) vs Ys) := hH
              have hm2 : (m : Int) < 2 := by omega
              clear hH
              go_wp2_with fail
              go_loopw [13, 15] (fun av i wr => ∃ j : Nat, j ≤ k ∧ i = .int .i64 j ∧ ∃ (a c : _) (vs : List Value) (Ys : List (List Int)), av = .slice a vs.length c ∧ Hid (vs.length = m * k + j ∧ Below w.heap.size w wr ∧ Gath wr w.heap.size (.pointer (some ⟨sb, 0, none⟩)) (.pointer (some ⟨rb, 0, none⟩)) F G ρ k av vs Ys)) (fun _ i _ => k - (intOf i).toNat)
              case atStart => exact ⟨0, by omega, rfl, a1, c1, vs, Ys, rfl, HM⟩
              case round =>
                clear HM
                obtain ⟨j, hj, rfl, a2, c2, vs, Ys, rfl, hH⟩ := hrel
                obtain ⟨hL, hB, hG⟩ := hH.out
                by_cases hlj : j < k
                · have HL := Lib.hid hL
                  have HB := Lib.hid hB
                  have HG := Lib.hid hG
                  have HT : Hid (Fits (vs.length + 1) 24) := Lib.hid (HTR.out _ (by rw [hL]; have : m * k ≤ 1 * k := Nat.mul_le_mul_right _ (by omega); omega))
                  have HLJ := Lib.hid hlj
                  clear hL hB hG hH hlj
                  go_wp2_with fail
                  refine (uniClassI HG.out.uni (j : Int) HT8.out).mono ?_
                  rintro e w3 (⟨hbad, _⟩ | ⟨j', v3, hj', hjn, rfl, u3, k3, o3, n3⟩)
                  · exact absurd HLJ.out (by rw [seqI_length] at hbad; omega)
                  obtain rfl : j' = j := by omega
                  have HY := Lib.hid (clsLeI (seqI k).length ρ (ρ j'))
                  obtain ⟨Y, hYe⟩ : ∃ Y, Y = clsOf (seqI k).length ρ (ρ j') := ⟨_, rfl⟩
                  rw [← hYe] at HY o3
                  have HYE := Lib.hid hYe
                  obtain ⟨a3, c3, rfl, p1, p2, _⟩ := o3.shape
                  have U3 := Lib.hid u3
                  have K3 := Lib.hid k3
                  have O3 := Lib.hid o3
                  have N3 := Lib.hid n3
                  have R3 := Lib.hid (HG.out.ref.frame k3 (fun b hg hf => HG.out.dis b hf hg))
                  clear hj' hjn u3 k3 o3 n3 hYe
                  go_wp2_with fail
                  refine (runClass R3.out (j' : Int) HT8.out).mono ?_
                  rintro e w4 (⟨hbad, _⟩ | ⟨j2, v4, hj2, _, rfl, f4⟩)
                  · exact absurd HLJ.out (by rw [seqI_length] at hbad; omega)
                  obtain rfl : j2 = j' := by omega
                  rw [← HYE.out] at f4
                  have F4 := Lib.hid f4
                  clear f4 hj2
                  go_wp2_with fail
                  refine (sameI _ _ Y Y w4 (O3.out.frame F4.out.2.1 (fun _ _ => id)).rd F4.out.1.rd).mono ?_
                  rintro e w5 ⟨rfl, k5⟩
                  rw [decide_eq_true (rfl : Y = Y)]
                  have K5 := Lib.hid (F4.out.2.1.trans k5)
                  have OA := Lib.hid ((HG.out.own.frame K3.out (fun b hb hf => (HG.out.avb b hb).2.1 hf)).frame K5.out (fun _ _ => id))
                  clear k5
                  go_wp2_with (first
                    | (at_builtin
                       refine wpList_append slRows (v := .slice a2 vs.length c2) (vx := .slice (some ⟨w5.heap.size, 0, none⟩) 1 1) (news := [.slice a3 Y.length c3]) (m := 1) rfl _ _ rfl rfl rfl (OA.out.alloc _) (Own.rd (Own.fresh (n := 1) (by rfl) (by decide))) (by simp [Value.oneCell']) HT.out ?_
                       intro v7 w7 ho7 hk7 hb7 _
                       obtain ⟨a7, c7, rfl, _, _, _⟩ := ho7.shape))
                  have Q : Hid ((vs ++ [Value.slice a3 Y.length c3]).length = m * k + (j2 + 1) ∧ Below w.heap.size w w7 ∧ Gath w7 w.heap.size (.pointer (some ⟨sb, 0, none⟩)) (.pointer (some ⟨rb, 0, none⟩)) F G ρ k (.slice a7 (vs.length + 1) c7) (vs ++ [Value.slice a3 Y.length c3]) (Ys ++ [Y])) :=
                    Lib.hid ⟨by rw [List.length_append, HL.out]; rfl,
                      below_step ((below_step (below_step HB.out (Nat.le_refl _) K3.out HG.out.fb) (Nat.le_refl _) K5.out (fun _ h => h.elim)).alloc (by have := HB.out.size; have := K3.out.size; have := K5.out.size; omega) _) (Nat.le_refl _) hk7 (fun b hb => (HG.out.avb b hb).1),
                      HG.out.step HB.out.size U3.out K3.out O3.out N3.out (by have := HY.out; rw [seqI_length] at this; exact this) K5.out hk7 ho7 hb7⟩
                  clear ho7 hk7 hb7
                  go_roundw
                  case rel => exact ⟨j2 + 1, by have := HLJ.out; omega, by go_num, a7, c7, vs ++ [Value.slice a3 Y.length c3], Ys ++ [Y], by simp, by simpa using Q⟩
                  case measure => have := HLJ.out; simp [intOf]; omega
                · obtain rfl : j = k := by omega
                  have Q : Hid (vs.length = (m + 1) * j ∧ Below w.heap.size w wr ∧ Gath wr w.heap.size (.pointer (some ⟨sb, 0, none⟩)) (.pointer (some ⟨rb, 0, none⟩)) F G ρ j (.slice a2 vs.length c2) vs Ys) := Lib.hid ⟨by rw [hL, Nat.succ_mul], hB, hG⟩
                  clear hL hB hG hH
                  go_wp2
                  go_roundw
                  case rel => exact ⟨m + 1, by omega, by go_num, a2, c2, vs, Ys, rfl, Q⟩
                  case measure => simp [intOf]; omega
            · obtain rfl : m = 2 := by omega
              obtain ⟨hL, hB, hG⟩ := hH.out
              have hYl := hG.rs.1.len
              have hsum := sum_short hG.short
              have HB := Lib.hid hB
              have HG := Lib.hid hG
              have HS : Hid (vs.length ≤ 100000 ∧ (∀ Y ∈ Ys, Y.length ≤ 17592186043904) ∧ (Ys.map List.length).sum ≤ 4611686018427387904) := Lib.hid
                ⟨by omega, fun Y hY => by have := hG.short Y hY; omega, by
                  have : Ys.length * k ≤ 60 * 30 := Nat.mul_le_mul (by omega) (by omega)
                  omega⟩
              clear hL hB hG hH hYl hsum hlt hm
              go_wp2_with fail
              refine (HG.out.rs.apart HS.out.1 HS.out.2.1 HS.out.2.2 HG.out.own HG.out.avd).mono ?_
              rintro e w8 ⟨rfl, k8⟩
              have Q0 : Hid (Below w.heap.size w w8 ∧ UniI w8 (.pointer (some ⟨sb, 0, none⟩)) F ρ (seqI k) ∧ RUn w8 (.pointer (some ⟨rb, 0, none⟩)) G ρ (seqI k)) := Lib.hid
                ⟨below_step HB.out (Nat.le_refl _) k8 (fun b ⟨v, hv, hb⟩ => HG.out.rs.2.2 v hv b hb), HG.out.uni.frame k8 (fun b hf ⟨v, hv, hb⟩ => HG.out.rs.2.1 v hv b hb (.inl hf)), HG.out.ref.frame k8 (fun b hg ⟨v, hv, hb⟩ => HG.out.rs.2.1 v hv b hb (.inr hg))⟩
              have HD : Hid ((∀ b, F b → ¬ G b) ∧ ∀ b, F b → w.heap.size ≤ b) := Lib.hid ⟨HG.out.dis, HG.out.fb⟩
              clear k8 HG HB HS
              go_wp2_with fail
              go_loopw [20] (fun i wr => ∃ j : Nat, j ≤ k ∧ i = .int .i64 j ∧ Hid (Below w.heap.size w wr ∧ UniI wr (.pointer (some ⟨sb, 0, none⟩)) F ρ (seqI k) ∧ RUn wr (.pointer (some ⟨rb, 0, none⟩)) G ρ (seqI k))) (fun i _ => k - (intOf i).toNat)
              case atStart => exact ⟨0, Nat.zero_le _, rfl, Q0⟩
              case round =>
                clear Q0
                obtain ⟨j, hj, rfl, hH⟩ := hrel
                obtain ⟨hB, hU, hR⟩ := hH.out
                by_cases hlj : j < k
                · have HB := Lib.hid hB
                  have HU := Lib.hid hU
                  have HR := Lib.hid hR
                  have HLJ := Lib.hid hlj
                  clear hB hU hR hH hlj
                  go_wp2_with fail
                  refine (uniClassI HU.out (j : Int) HT8.out).mono ?_
                  rintro e w3 (⟨hbad, _⟩ | ⟨j', v3, hj', hjn, rfl, u3, k3, o3, n3⟩)
                  · exact absurd HLJ.out (by rw [seqI_length] at hbad; omega)
                  obtain rfl : j' = j := by omega
                  obtain ⟨Y, hYe⟩ : ∃ Y, Y = clsOf (seqI k).length ρ (ρ j') := ⟨_, rfl⟩
                  rw [← hYe] at o3
                  have HYE := Lib.hid hYe
                  obtain ⟨a3, c3, rfl, p1, p2, _⟩ := o3.shape
                  have U3 := Lib.hid u3
                  have O3 := Lib.hid o3
                  have B3 := Lib.hid (below_step HB.out (Nat.le_refl _) k3 HD.out.2)
                  have R3 := Lib.hid (HR.out.frame k3 (fun b hg hf => HD.out.1 b hf hg))
                  clear hj' hjn u3 k3 o3 n3 hYe
                  go_wp2_with fail
                  refine (runClass R3.out (j' : Int) HT8.out).mono ?_
                  rintro e w4 (⟨hbad, _⟩ | ⟨j2, v4, hj2, _, rfl, f4⟩)
                  · exact absurd HLJ.out (by rw [seqI_length] at hbad; omega)
                  obtain rfl : j2 = j' := by omega
                  rw [← HYE.out] at f4
                  have F4 := Lib.hid f4
                  clear f4 hj2
                  go_wp2_with fail
                  refine (sameI _ _ Y Y w4 (O3.out.frame F4.out.2.1 (fun _ _ => id)).rd F4.out.1.rd).mono ?_
                  rintro e w5 ⟨rfl, k5⟩
                  rw [decide_eq_true (rfl : Y = Y)]
                  have K5 := F4.out.2.1.trans k5
                  have Q : Hid (Below w.heap.size w w5 ∧ UniI w5 (.pointer (some ⟨sb, 0, none⟩)) F ρ (seqI k) ∧ RUn w5 (.pointer (some ⟨rb, 0, none⟩)) G ρ (seqI k)) := Lib.hid
                    ⟨below_step B3.out (Nat.le_refl _) K5 (fun _ h => h.elim), U3.out.frame K5 (fun _ _ => id), R3.out.frame K5 (fun _ _ => id)⟩
                  clear k5 K5
                  go_wp2
                  go_roundw
                  case rel => exact ⟨j2 + 1, by have := HLJ.out; omega, by go_num, Q⟩
                  case measure => have := HLJ.out; simp [intOf]; omega
                · go_wp2
                  go_ret
                  exact ⟨rfl, hB⟩

set_option maxRecDepth 100000 in
theorem unionApart_calls : LawCalls Try.prog 3 Try.f3 := by
  intro H enc W args ds ps hval hA hsz
  rw [Try.params3] at hA hval hsz
  obtain ⟨v0, v1, d0, d1, p0, p1, rfl, rfl, _, h0, h1⟩ := trodAll_two hA
  obtain ⟨base0, hok0⟩ := hval 0 _ v0 rfl rfl
  obtain ⟨base1, hok1⟩ := hval 1 _ v1 rfl rfl
  obtain ⟨n, rfl, _, _, _⟩ := open_int Try.underlying3 hok0 h0
  obtain ⟨xs, hx, _, _, hr⟩ := open_arrays_arg (m0 := 2) Try.underlying22 Try.underlying35 Try.underlying3 (by kernel_rfl) (by kernel_rfl) hok1 h1
  have hb : Try.prog.bytesOf 35 = 16 := by kernel_rfl
  have := hr hsz (j := 1) rfl rfl
  rw [hb] at this
  exact unionApart_walk n v1 xs W hx this

end Go.Proofs.Ytodklnfdmcadkaa
