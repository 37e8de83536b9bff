/- The walk of IndexApart. -/
import Derived.Test.YtibenffndoknpaaArgsI
import Derived.Test.YtibenffndoknpaaIntsApart
import Derived.Test.YtibenffndoknpaaFirstsPure
import Derived.Test.YtibenffndoknpaaWakes3
namespace Go.Proofs.Ytibenffndoknpaa
open Go.ChangeShapes Go.WideShapes Go.ChangeAt Go.RowKit
set_option linter.unusedVariables false
set_option linter.unusedSimpArgs false

theorem putK_nodup {ks : List Int} {k : Int} (h : ks.Nodup) : (putK ks k).Nodup := by
  unfold putK
  split
  · exact h
  · rename_i hk
    rw [List.nodup_append]
    exact ⟨h, by simp, fun a ha b hb e => by simp at hb; subst hb; subst e; exact hk ha⟩

/-- Two fresh lists of n ints in a list of two. -/
theorem rows_two {w : World} {a b : Value} {n : Nat} {ks : List Int} (hn : n = ks.length) (ha : Own w 3 1 a n (cellsOf encI ks)) (hb : Own w 3 1 b n (cellsOf encI ks)) (hd : ∀ i, a.ownBlock = some i → b.ownBlock ≠ some i) : Rows0 w [a, b] [n, n] := by
  subst hn
  refine ⟨rfl, ?_, ?_⟩
  · intro i h
    match i, h with
    | 0, _ => exact ⟨ks, rfl, ha⟩
    | 1, _ => exact ⟨ks, rfl, hb⟩
  · intro i j hi hj hne c hc
    match i, j, hi, hj with
    | 0, 0, _, _ => exact absurd rfl hne
    | 1, 1, _, _ => exact absurd rfl hne
    | 0, 1, _, _ => exact hd c hc
    | 1, 0, _, _ => exact fun h => hd c h hc

set_option maxRecDepth 100000 in
set_option maxHeartbeats 2000000 in
theorem indexApart_walk (v : Value) (xs : List Int) (w : World) (hx : Rd w 1 v xs.length (cellsOf encI xs)) (hreach : xs.length * 8 ≤ 140737488351232) :
    Calls Try.prog 4 #[v] w fun e w' => e = .returned (.bool true) ∧ Below w.heap.size w w' := by
  obtain ⟨_, a, c, rfl, ka1, ka2, ka3, _⟩ := id hx
  have HX := Lib.hid hx
  have KA := Lib.hid ka3
  clear hx ka3
  go_enter Try.func4, Try.ntmps4
  go_wp2_with fail
  refine (wakes_any w).mono ?_
  rintro e w1 ⟨rfl, hb1⟩
  go_wp2_with fail
  refine (idxNewI w1).mono ?_
  rintro e w2 ⟨p, F0, rfl, hI0, hk0, hF0, b, rfl⟩
  have HI0 := Lib.hid hI0
  have HF0 := Lib.hid (show ∀ b, F0 b → w.heap.size ≤ b from fun b h => Nat.le_trans hb1.size (hF0 b h))
  have hb2 := below_step hb1 (Nat.le_refl _) hk0 (fun _ h => h.elim)
  clear hI0 hF0
  go_wp2_with fail
  go_loopw [4] (fun i wr => ∃ k : Nat, k ≤ xs.length ∧ i = .int .i64 k ∧ Below w.heap.size w wr ∧ ∃ F, IdxI wr (.pointer (some ⟨b, 0, none⟩)) F (firsts (xs.take k)) ∧ (∀ b, F b → w.heap.size ≤ b)) (fun i _ => xs.length - (intOf i).toNat)
  case atStart => exact ⟨0, Nat.zero_le _, rfl, hb2, F0, HI0.out, HF0.out⟩
  case round =>
    obtain ⟨k, hk, rfl, hb, F, hI, hF⟩ := hrel
    by_cases hlt : k < xs.length
    · cases a with
      | none => exact absurd (KA.out rfl).1 (by omega)
      | some ad =>
        have cx := rdCellI (HX.out.later hb) hlt
        dsimp only at cx
        unfold maxLen at ka2
        have HF := Lib.hid hF
        have HB := Lib.hid hb
        have HI := Lib.hid hI
        clear hF hb hI
        obtain ⟨ks, hks⟩ : ∃ ks, ks = firsts (xs.take k) := ⟨_, rfl⟩
        have hm : ks.length ≤ k := by have := length_firsts (xs.take k); rw [← hks] at this; simp at this; omega
        have HS := Lib.hid (firsts_take hlt)
        rw [← hks] at HI HS
        clear hks
        go_wp2_with fail
        refine (idxNumberI HI.out xs[k] (fits_of (by omega) (by decide))).mono ?_
        rintro e w4 ⟨rfl, F', hI', hk', hF'⟩
        rw [← HS.out] at hI'
        have HI' := Lib.hid hI'
        have HF' := Lib.hid (show ∀ b, F' b → w.heap.size ≤ b from fun b h => by
          rcases hF' b h with h | h
          · exact HF.out b h
          · exact Nat.le_trans HB.out.size h)
        have HB' := Lib.hid (below_step HB.out (Nat.le_refl _) hk' HF.out)
        clear hI' hF'
        go_wp2
        go_roundw
        case rel => exact ⟨k + 1, by omega, by go_num, HB'.out, F', HI'.out, HF'.out⟩
        case measure => simp [intOf]; omega
    · obtain rfl : k = xs.length := by omega
      obtain ⟨ks, hks⟩ : ∃ ks, ks = firsts (xs.take xs.length) := ⟨_, rfl⟩
      have hm : ks.length ≤ xs.length := by have := length_firsts (xs.take xs.length); rw [← hks] at this; simp at this; omega
      rw [← hks] at hI
      have hnd : ks.Nodup := by obtain ⟨_, _, _, _, _, _, _, _, _, _, h, _⟩ := hI; exact h
      have HND := Lib.hid hnd
      have HF := Lib.hid hF
      have HB := Lib.hid hb
      have HI := Lib.hid hI
      have HT : Hid (Fits ks.length 8) := Lib.hid (fits_of (by omega) (by omega))
      clear hF hb hI hks hnd
      go_wp2_with fail
      refine (idxListI HI.out HT.out).mono ?_
      rintro e w5 ⟨v5, rfl, ho5, hk5, hn5⟩
      have hI5 := HI.out.frame hk5 (fun _ _ => id)
      have HI5 := Lib.hid hI5
      obtain ⟨a5, c5, rfl, t1, t2, t3⟩ := ho5.shape
      have HO5 := Lib.hid ho5
      have HN5 := Lib.hid hn5
      have HK5 := Lib.hid hk5
      clear hI5 ho5 hn5 t3 hk5
      go_wp2_with fail
      refine (idxListI HI5.out HT.out).mono ?_
      rintro e w6 ⟨v6, rfl, ho6, hk6, hn6⟩
      obtain ⟨a6, c6, rfl, t4, t5, t6⟩ := ho6.shape
      have HI6 := Lib.hid (HI5.out.frame hk6 (fun _ _ => id))
      have HL6 := Lib.hid (HO5.out.frame hk6 (fun _ _ => id))
      have HO6 := Lib.hid ho6
      have HN6 := Lib.hid hn6
      have HK6 := Lib.hid hk6
      have HT0 : Hid (Fits (0 + ks.length) 8) := Lib.hid (by rw [Nat.zero_add]; exact HT.out)
      clear ho6 hn6 t6 hk6
      go_wp2_with (first
        | (at_builtin; refine wpList_append slInt (v := .slice (some ⟨w6.heap.size, 0, none⟩) 0 0) (vx := .slice a5 ks.length c5) (news := cellsOf encI ks) (n := 0) (m := ks.length) (xs := []) rfl _ _ rfl rfl rfl (Own.fresh (cs := #[]) (n := 0) (by rfl) (by decide)) (HL6.out.alloc _).rd (oneI ks) HT0.out ?_; intro v7 w7 ho7 hk7 hb7 _; obtain ⟨a7, c7, rfl, u1, u2, u3⟩ := ho7.shape))
      have e7 : ∀ {vv : Value} {m : Nat} {zs : List Value}, Own w6 3 1 vv m zs → Own w7 3 1 vv m zs := fun h =>
        (h.alloc _).frame hk7 (fun b hb h2 => by have := h.lt hb; simp [Value.ownBlock] at h2; omega)
      have HI7 := Lib.hid ((HI6.out.frame ((Kept.refl (fun _ => False) w6).alloc (.cells #[] 3)) (fun _ _ => id)).frame hk7 (fun b hb h2 => by have := HI6.out.lt hb; simp [Value.ownBlock] at h2; omega))
      have HL7 := Lib.hid (e7 HL6.out)
      have HM7 := Lib.hid (e7 HO6.out)
      have HO7 := Lib.hid (show Own w7 3 1 (.slice a7 ks.length c7) ks.length (cellsOf encI ks) by simpa using ho7)
      have hn7 : ∀ b, (Value.slice a7 (0 + ks.length) c7).ownBlock = some b → w6.heap.size ≤ b := fun b h => by
        rcases hb7 b h with h2 | h2
        · simp [Value.ownBlock] at h2
          omega
        · simp at h2
          omega
      have HN7 := Lib.hid hn7
      have HB7 := Lib.hid (below_step (((below_step (below_step HB.out (Nat.le_refl _) HK5.out (fun _ h => h.elim)) (Nat.le_refl _) HK6.out (fun _ h => h.elim))).alloc (by have := HB.out.size; have := HK5.out.size; have := HK6.out.size; omega) (.cells #[] 3)) (Nat.le_refl _) hk7 (fun b h => by have := HB.out.size; have := HK5.out.size; have := HK6.out.size; simp [Value.ownBlock] at h; omega))
      clear ho7 hk7 hb7 u3 e7 hn7
      refine (idxLenI HI7.out).mono ?_
      rintro e w8 ⟨rfl, rfl⟩
      go_wp2_with fail
      refine (sameI (.slice a5 ks.length c5) (.slice a6 ks.length c6) ks ks w7 HL7.out.rd HM7.out.rd).mono ?_
      rintro e w9 ⟨rfl, hk9⟩
      have hdt : decide (ks = ks) = true := by simp
      rw [hdt]
      have HI9 := Lib.hid (HI7.out.frame hk9 (fun _ _ => id))
      have HL9 := Lib.hid (HL7.out.frame hk9 (fun _ _ => id))
      have HM9 := Lib.hid (HM7.out.frame hk9 (fun _ _ => id))
      have HO9 := Lib.hid (HO7.out.frame hk9 (fun _ _ => id))
      have HB9 := Lib.hid (below_step HB7.out (Nat.le_refl _) hk9 (fun _ h => h.elim))
      clear hk9
      go_wp2_with fail
      refine (intsApart (w9.alloc (.cells #[.slice a5 ks.length c5, .slice a6 ks.length c6] 22)) (.slice (some ⟨w9.heap.size, 0, none⟩) 2 2) [.slice a5 ks.length c5, .slice a6 ks.length c6] [ks.length, ks.length]
        (Own.fresh (n := 2) (by rfl) (by decide)) (rows_two rfl (HL9.out.alloc _) (HM9.out.alloc _) (fun i h1 h2 => by have := HN6.out i h2; have := HO5.out.lt h1; omega)) ?_ (by simp) ?_ ?_).mono ?_
      case refine_1 =>
        intro i h b hb hb2
        simp [Value.ownBlock] at hb2
        match i, h with
        | 0, _ => have := HL9.out.lt hb; omega
        | 1, _ => have := HM9.out.lt hb; omega
      case refine_2 =>
        intro i h
        match i, h with
        | 0, _ => show ks.length ≤ _; omega
        | 1, _ => show ks.length ≤ _; omega
      case refine_3 => simp; omega
      rintro e w10 ⟨rfl, hk10⟩
      have hk10' : Kept (fun b => (Value.slice a5 ks.length c5).ownBlock = some b ∨ (Value.slice a6 ks.length c6).ownBlock = some b) (w9.alloc (.cells #[.slice a5 ks.length c5, .slice a6 ks.length c6] 22)) w10 := hk10.mono (fun b _ ⟨i, h, hb⟩ => by
        match i, h with
        | 0, _ => exact .inl hb
        | 1, _ => exact .inr hb)
      have z1 := HK5.out.size
      have z2 := HK6.out.size
      have z0 := HB.out.size
      have HIA := Lib.hid ((HI9.out.frame ((Kept.refl (fun _ => False) w9).alloc (.cells #[.slice a5 ks.length c5, .slice a6 ks.length c6] 22)) (fun _ _ => id)).frame hk10' (fun b hb h2 => by
        have := HI.out.lt hb
        rcases h2 with h2 | h2
        · have := HN5.out b h2; omega
        · have := HN6.out b h2; omega))
      have HOA := Lib.hid ((HO9.out.alloc (.cells #[.slice a5 ks.length c5, .slice a6 ks.length c6] 22)).frame hk10' (fun b hb h2 => by
        have := HN7.out b (by simpa using hb)
        rcases h2 with h2 | h2
        · have := HO5.out.lt h2; omega
        · have := HO6.out.lt h2; omega))
      have HBA := Lib.hid (below_step (HB9.out.alloc HB9.out.size (.cells #[.slice a5 ks.length c5, .slice a6 ks.length c6] 22)) (Nat.le_refl _) hk10' (fun b h2 => by
        rcases h2 with h2 | h2
        · have := HN5.out b h2; omega
        · have := HN6.out b h2; omega))
      clear hk10 hk10' z0 z1 z2
      go_wp2_with fail
      go_loop [10] (fun i => ∃ k : Nat, k ≤ ks.length ∧ i = .int .i64 k) (fun i => ks.length - (intOf i).toNat)
      case atStart => exact ⟨0, Nat.zero_le _, rfl⟩
      case round =>
        obtain ⟨k, hk, rfl⟩ := hrel
        by_cases hlt : k < ks.length
        · obtain ⟨g, off, cap, hv7, _, _, hcell, _, _⟩ := HOA.out.elt (by omega)
          simp only [Value.slice.injEq] at hv7
          obtain ⟨rfl, _, rfl⟩ := hv7
          have hc := hcell k (.int .i64 ks[k]) (by rw [cellsOf_encI]; simp [hlt])
          have hix : ks.idxOf ks[k] = k := HND.out.idxOf_getElem k hlt
          have hmem : ks[k] ∈ ks := List.getElem_mem hlt
          have hf := idxFindI HIA.out ks[k]
          rw [if_pos hmem, if_pos hmem, hix] at hf
          have HFF := Lib.hid hf
          clear hcell hf hix hmem
          go_wp2_with fail
          refine HFF.out.mono ?_
          rintro e wy ⟨rfl, rfl⟩
          go_wp2
          go_round
          case rel => exact ⟨k + 1, by omega, by go_num⟩
          case measure => simp [intOf]; omega
        · obtain rfl : k = ks.length := by omega
          go_wp2_with fail
          refine (idxListI HIA.out HT.out).mono ?_
          rintro e wb ⟨vb, rfl, hob, hkb, hnb⟩
          have HOB := Lib.hid hob
          have HOA2 := Lib.hid (HOA.out.frame hkb (fun _ _ => id))
          have HBB := Lib.hid (below_step HBA.out (Nat.le_refl _) hkb (fun _ h => h.elim))
          clear hob hkb hnb
          go_wp2_with fail
          refine (sameI vb (.slice a7 ks.length c7) ks ks wb HOB.out.rd HOA2.out.rd).mono ?_
          rintro e wc ⟨rfl, hkc⟩
          have hdt : decide (ks = ks) = true := by simp
          rw [hdt]
          go_wp2
          go_ret
          exact ⟨rfl, below_step HBB.out (Nat.le_refl _) hkc (fun _ h => h.elim)⟩

theorem indexApart_calls : LawCalls Try.prog 4 Try.f4 := by
  intro H enc W args ds ps hval hA hsz
  rw [Try.params4] at hA hval hsz
  obtain ⟨v0, d0, rfl, rfl, h0⟩ := trodAll_one hA
  obtain ⟨base, hok⟩ := hval 0 _ v0 rfl rfl
  obtain ⟨xs, hx, _, hr⟩ := open_ints_arg hok h0
  exact indexApart_walk v0 xs W hx (hr hsz (j := 0) rfl rfl)

end Go.Proofs.Ytibenffndoknpaa
