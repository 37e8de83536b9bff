/- The walk of ScopeApart. -/
import Derived.Test.YtllcklddfcclfaaArgsI
import Derived.Test.YtllcklddfcclfaaIntsApart
import Derived.Test.YtllcklddfcclfaaFirstsPure
import Derived.Test.YtllcklddfcclfaaWakes4
import Derived.Test.YtllcklddfcclfaaScopeHII
import Derived.Test.YtllcklddfcclfaaScopeFII
namespace Go.Proofs.Ytllcklddfcclfaa
open Go.ChangeShapes Go.WideShapes Go.ChangeAt Go.RowKit
set_option linter.unusedVariables false
set_option linter.unusedSimpArgs false

/-- Two fresh lists of n ints in a list of two. -/
theorem rows_two {w : World} {a b : Value} {n : Nat} {ks : List Int} (hn : n = ks.length) (ha : Own w 3 1 a n (cellsOf encI ks)) (hb : Own w 3 1 b n (cellsOf encI ks)) (hd : ∀ i, a.ownBlock = some i → b.ownBlock ≠ some i) : Rows0 w [a, b] [n, n] := by
  subst hn
  refine ⟨rfl, ?_, ?_⟩
  · intro i h
    match i, h with
    | 0, _ => exact ⟨ks, rfl, ha⟩
    | 1, _ => exact ⟨ks, rfl, hb⟩
  · intro i j hi hj hne c hc
    match i, j, hi, hj with
    | 0, 0, _, _ => exact absurd rfl hne
    | 1, 1, _, _ => exact absurd rfl hne
    | 0, 1, _, _ => exact hd c hc
    | 1, 0, _, _ => exact fun h => hd c h hc

/-- What the frame holds behind k rounds: each thing with the place at which it first came. -/
structure FirstItems (xs : List Int) (k : Nat) (items : List (Int × Int)) : Prop where
  keys : ∀ x, x ∈ items.map (·.1) ↔ x ∈ xs.take k
  at_ : ∀ it ∈ items, ∃ i : Nat, it.2 = i ∧ i < k ∧ xs[i]? = some it.1 ∧ ∀ j < i, xs[j]? ≠ some it.1
  len : items.length ≤ k

theorem FirstItems.old {xs : List Int} {k : Nat} {items : List (Int × Int)} (h : FirstItems xs k items) (hk : k < xs.length) (hm : xs[k] ∈ items.map (·.1)) : FirstItems xs (k + 1) items := by
  refine ⟨fun x => ?_, fun it hit => ?_, by have := h.len; omega⟩
  · rw [h.keys, List.take_succ_eq_append_getElem hk, List.mem_append, List.mem_singleton]
    exact ⟨.inl, fun h' => h'.elim id (fun e => by rw [e]; exact (h.keys _).1 hm)⟩
  · obtain ⟨i, h1, h2, h3, h4⟩ := h.at_ it hit
    exact ⟨i, h1, by omega, h3, h4⟩

theorem FirstItems.new {xs : List Int} {k : Nat} {items : List (Int × Int)} (h : FirstItems xs k items) (hk : k < xs.length) (hm : xs[k] ∉ items.map (·.1)) : FirstItems xs (k + 1) (items ++ [(xs[k], (k : Int))]) := by
  refine ⟨fun x => ?_, fun it hit => ?_, by have := h.len; simp; omega⟩
  · rw [List.map_append, List.mem_append, h.keys, List.take_succ_eq_append_getElem hk, List.mem_append]
    simp
  · rcases List.mem_append.1 hit with hit | hit
    · obtain ⟨i, h1, h2, h3, h4⟩ := h.at_ it hit
      exact ⟨i, h1, by omega, h3, h4⟩
    · simp only [List.mem_singleton] at hit
      subst hit
      refine ⟨k, rfl, by omega, by simp [hk], fun j hj e => hm ((h.keys _).2 ?_)⟩
      exact List.mem_iff_getElem?.2 ⟨j, by rw [List.getElem?_take, if_pos hj]; exact e⟩

set_option maxRecDepth 100000 in
set_option maxHeartbeats 2000000 in
theorem scopeApart_walk (v : Value) (xs : List Int) (w : World) (hx : Rd w 1 v xs.length (cellsOf encI xs)) (hreach : xs.length * 8 ≤ 140737488351232) :
    Calls Try.prog 3 #[v] w fun e w' => e = .returned (.bool true) ∧ Below w.heap.size w w' := by
  obtain ⟨_, a, c, rfl, ka1, ka2, ka3, _⟩ := id hx
  have HX := Lib.hid hx
  have KA := Lib.hid ka3
  clear hx ka3
  go_enter Try.func3, Try.ntmps3
  go_wp2_with fail
  refine (wakes_any w).mono ?_
  rintro e w1 ⟨rfl, hb1⟩
  go_wp2_with fail
  refine (scopeNewII w1).mono ?_
  rintro e w2 ⟨b, mb, F0, rfl, hI0, hk0, hF0⟩
  have HI0 := Lib.hid hI0
  have HF0 := Lib.hid (show ∀ b, F0 b → w.heap.size ≤ b from fun b h => Nat.le_trans hb1.size (hF0 b h))
  have hb2 := below_step hb1 (Nat.le_refl _) hk0 (fun _ h => h.elim)
  clear hI0 hF0
  go_wp2_with fail
  go_loopw [4] (fun i wr => ∃ k : Nat, k ≤ xs.length ∧ i = .int .i64 k ∧ Hid (Below w.heap.size w wr ∧ ∃ F kv items, ScopeII wr (.pointer (some ⟨b, 0, none⟩)) F ([] ++ [⟨mb, kv, items⟩]) ∧ (∀ b, F b → w.heap.size ≤ b) ∧ FirstItems xs k items)) (fun i _ => xs.length - (intOf i).toNat)
  case atStart => exact ⟨0, Nat.zero_le _, rfl, Lib.hid ⟨hb2, F0, _, [], HI0.out, HF0.out, ⟨by simp, by simp, by simp⟩⟩⟩
  case round =>
    obtain ⟨k, hk, rfl, hH⟩ := hrel
    obtain ⟨hb, F, kv, items, hI, hF, hit⟩ := hH.out
    by_cases hlt : k < xs.length
    · cases a with
      | none => exact absurd (KA.out rfl).1 (by omega)
      | some ad =>
        have cx := rdCellI (HX.out.later hb) hlt
        dsimp only at cx
        unfold maxLen at ka2
        have hil := hit.len
        have HF := Lib.hid hF
        have HB := Lib.hid hb
        have HI := Lib.hid hI
        have HIT := Lib.hid hit
        clear hF hb hI hit hH
        obtain ⟨x, hxk⟩ : ∃ x, x = xs[k] := ⟨_, rfl⟩
        have HXK := Lib.hid hxk
        rw [← hxk] at cx
        clear hxk
        go_wp2_with fail
        refine (scopeBindII (f := ⟨mb, kv, items⟩) HI.out x (k : Int) (fits_of (by show (items.length + 1) * 8 ≤ _; omega) (by decide))).mono ?_
        rintro e w4 (⟨hm, rfl, k4⟩ | ⟨hm, rfl, F', kv2, hI', k4, hF'⟩)
        · have Q := Lib.hid (show Below w.heap.size w w4 ∧ ∃ F kv items, ScopeII w4 (.pointer (some ⟨b, 0, none⟩)) F ([] ++ [⟨mb, kv, items⟩]) ∧ (∀ b, F b → w.heap.size ≤ b) ∧ FirstItems xs (k + 1) items from
            ⟨below_step HB.out (Nat.le_refl _) k4 (fun _ h => h.elim), F, kv, items, HI.out.frame k4 (fun _ _ => id), HF.out, HIT.out.old hlt (by rw [← HXK.out]; exact hm)⟩)
          clear hm k4
          go_wp2
          go_roundw
          case rel => exact ⟨k + 1, by omega, by go_num, Q⟩
          case measure => simp [intOf]; omega
        · have Q := Lib.hid (show Below w.heap.size w w4 ∧ ∃ F kv items, ScopeII w4 (.pointer (some ⟨b, 0, none⟩)) F ([] ++ [⟨mb, kv, items⟩]) ∧ (∀ b, F b → w.heap.size ≤ b) ∧ FirstItems xs (k + 1) items from
            ⟨below_step HB.out (Nat.le_refl _) k4 HF.out, F', kv2, _, hI', fun b h => (hF' b h).elim (HF.out b) (fun h => Nat.le_trans HB.out.size h), by
              have := HIT.out.new hlt (by rw [← HXK.out]; exact hm)
              rw [← HXK.out] at this
              exact this⟩)
          clear hm k4 hI' hF'
          go_wp2
          go_roundw
          case rel => exact ⟨k + 1, by omega, by go_num, Q⟩
          case measure => simp [intOf]; omega
    · obtain rfl : k = xs.length := by omega
      obtain ⟨ks, hks⟩ : ∃ ks, ks = items.map (·.1) := ⟨_, rfl⟩
      have hkl : ks.length = items.length := by rw [hks]; simp
      have hm : ks.length ≤ xs.length := by rw [hkl]; exact hit.len
      have HT : Hid (Fits ks.length 8) := Lib.hid (fits_of (by omega) (by omega))
      have HH : Hid (∀ wx F, ScopeII wx (.pointer (some ⟨b, 0, none⟩)) F ([] ++ [⟨mb, kv, items⟩]) → Calls Try.prog 11 #[.pointer (some ⟨b, 0, none⟩)] wx fun e w' => ∃ v, e = .returned v ∧ Fresh wx w' 3 1 v ks.length (cellsOf encI ks)) :=
        Lib.hid (fun wx F h => by
          have := scopeHereII (f := ⟨mb, kv, items⟩) h (by rw [← hkl]; exact HT.out)
          rw [hks, List.length_map]
          exact this)
      have HF := Lib.hid hF
      have HB := Lib.hid hb
      have HI := Lib.hid hI
      have HIT := Lib.hid hit
      clear hF hb hI hks hkl hit hH
      go_wp2_with fail
      refine (HH.out _ _ HI.out).mono ?_
      rintro e w5 ⟨v5, rfl, ho5, hk5, hn5⟩
      have hI5 := HI.out.frame hk5 (fun _ _ => id)
      have HI5 := Lib.hid hI5
      obtain ⟨a5, c5, rfl, t1, t2, t3⟩ := ho5.shape
      have HO5 := Lib.hid ho5
      have HN5 := Lib.hid hn5
      have HK5 := Lib.hid hk5
      clear hI5 ho5 hn5 t3 hk5
      go_wp2_with fail
      refine (HH.out _ _ HI5.out).mono ?_
      rintro e w6 ⟨v6, rfl, ho6, hk6, hn6⟩
      obtain ⟨a6, c6, rfl, t4, t5, t6⟩ := ho6.shape
      have HI6 := Lib.hid (HI5.out.frame hk6 (fun _ _ => id))
      have HL6 := Lib.hid (HO5.out.frame hk6 (fun _ _ => id))
      have HO6 := Lib.hid ho6
      have HN6 := Lib.hid hn6
      have HK6 := Lib.hid hk6
      have HT0 : Hid (Fits (0 + ks.length) 8) := Lib.hid (by rw [Nat.zero_add]; exact HT.out)
      clear ho6 hn6 t6 hk6
      go_wp2_with (first
        | (at_builtin; refine wpList_append slInt (v := .slice (some ⟨w6.heap.size, 0, none⟩) 0 0) (vx := .slice a5 ks.length c5) (news := cellsOf encI ks) (n := 0) (m := ks.length) (xs := []) rfl _ _ rfl rfl rfl (Own.fresh (cs := #[]) (n := 0) (by rfl) (by decide)) (HL6.out.alloc _).rd (oneI ks) HT0.out ?_; intro v7 w7 ho7 hk7 hb7 _; obtain ⟨a7, c7, rfl, u1, u2, u3⟩ := ho7.shape))
      have e7 : ∀ {vv : Value} {m : Nat} {zs : List Value}, Own w6 3 1 vv m zs → Own w7 3 1 vv m zs := fun h =>
        (h.alloc _).frame hk7 (fun b hb h2 => by have := h.lt hb; simp [Value.ownBlock] at h2; omega)
      have HI7 := Lib.hid ((HI6.out.frame ((Kept.refl (fun _ => False) w6).alloc (.cells #[] 3)) (fun _ _ => id)).frame hk7 (fun b hb h2 => by have := HI6.out.lt hb; simp [Value.ownBlock] at h2; omega))
      have HL7 := Lib.hid (e7 HL6.out)
      have HM7 := Lib.hid (e7 HO6.out)
      have HO7 := Lib.hid (show Own w7 3 1 (.slice a7 ks.length c7) ks.length (cellsOf encI ks) by simpa using ho7)
      have hn7 : ∀ b, (Value.slice a7 (0 + ks.length) c7).ownBlock = some b → w6.heap.size ≤ b := fun b h => by
        rcases hb7 b h with h2 | h2
        · simp [Value.ownBlock] at h2
          omega
        · simp at h2
          omega
      have HN7 := Lib.hid hn7
      have HB7 := Lib.hid (below_step (((below_step (below_step HB.out (Nat.le_refl _) HK5.out (fun _ h => h.elim)) (Nat.le_refl _) HK6.out (fun _ h => h.elim))).alloc (by have := HB.out.size; have := HK5.out.size; have := HK6.out.size; omega) (.cells #[] 3)) (Nat.le_refl _) hk7 (fun b h => by have := HB.out.size; have := HK5.out.size; have := HK6.out.size; simp [Value.ownBlock] at h; omega))
      clear ho7 hk7 hb7 u3 e7 hn7
      refine (sameI (.slice a5 ks.length c5) (.slice a6 ks.length c6) ks ks w7 HL7.out.rd HM7.out.rd).mono ?_
      rintro e w9 ⟨rfl, hk9⟩
      have hdt : decide (ks = ks) = true := by simp
      rw [hdt]
      have HI9 := Lib.hid (HI7.out.frame hk9 (fun _ _ => id))
      have HL9 := Lib.hid (HL7.out.frame hk9 (fun _ _ => id))
      have HM9 := Lib.hid (HM7.out.frame hk9 (fun _ _ => id))
      have HO9 := Lib.hid (HO7.out.frame hk9 (fun _ _ => id))
      have HB9 := Lib.hid (below_step HB7.out (Nat.le_refl _) hk9 (fun _ h => h.elim))
      clear hk9 hdt
      go_wp2_with fail
      refine (intsApart (w9.alloc (.cells #[.slice a5 ks.length c5, .slice a6 ks.length c6] 22)) (.slice (some ⟨w9.heap.size, 0, none⟩) 2 2) [.slice a5 ks.length c5, .slice a6 ks.length c6] [ks.length, ks.length]
        (Own.fresh (n := 2) (by rfl) (by decide)) (rows_two rfl (HL9.out.alloc _) (HM9.out.alloc _) (fun i h1 h2 => by have := HN6.out i h2; have := HO5.out.lt h1; omega)) ?_ (by simp) ?_ ?_).mono ?_
      case refine_1 =>
        intro i h b hb hb2
        simp [Value.ownBlock] at hb2
        match i, h with
        | 0, _ => have := HL9.out.lt hb; omega
        | 1, _ => have := HM9.out.lt hb; omega
      case refine_2 =>
        intro i h
        match i, h with
        | 0, _ => show ks.length ≤ _; omega
        | 1, _ => show ks.length ≤ _; omega
      case refine_3 => simp; omega
      rintro e w10 ⟨rfl, hk10⟩
      have hk10' : Kept (fun b => (Value.slice a5 ks.length c5).ownBlock = some b ∨ (Value.slice a6 ks.length c6).ownBlock = some b) (w9.alloc (.cells #[.slice a5 ks.length c5, .slice a6 ks.length c6] 22)) w10 := hk10.mono (fun b _ ⟨i, h, hb⟩ => by
        match i, h with
        | 0, _ => exact .inl hb
        | 1, _ => exact .inr hb)
      have z1 := HK5.out.size
      have z2 := HK6.out.size
      have z0 := HB.out.size
      have HIA := Lib.hid ((HI9.out.frame ((Kept.refl (fun _ => False) w9).alloc (.cells #[.slice a5 ks.length c5, .slice a6 ks.length c6] 22)) (fun _ _ => id)).frame hk10' (fun b hb h2 => by
        have := HI.out.lt hb
        rcases h2 with h2 | h2
        · have := HN5.out b h2; omega
        · have := HN6.out b h2; omega))
      have HOA := Lib.hid ((HO9.out.alloc (.cells #[.slice a5 ks.length c5, .slice a6 ks.length c6] 22)).frame hk10' (fun b hb h2 => by
        have := HN7.out b (by simpa using hb)
        rcases h2 with h2 | h2
        · have := HO5.out.lt h2; omega
        · have := HO6.out.lt h2; omega))
      have HBA := Lib.hid (below_step (HB9.out.alloc HB9.out.size (.cells #[.slice a5 ks.length c5, .slice a6 ks.length c6] 22)) (Nat.le_refl _) hk10' (fun b h2 => by
        rcases h2 with h2 | h2
        · have := HN5.out b h2; omega
        · have := HN6.out b h2; omega))
      clear hk10 hk10' z0 z1 z2
      go_wp2_with fail
      go_loopw [8] (fun i wx => ∃ k : Nat, k ≤ xs.length ∧ i = .int .i64 k ∧ Hid (Below w10.heap.size w10 wx)) (fun i _ => xs.length - (intOf i).toNat)
      case atStart => exact ⟨0, Nat.zero_le _, rfl, Lib.hid (Below.refl _ _)⟩
      case round =>
        obtain ⟨k, hk, rfl, hbx⟩ := hrel
        have HIX := Lib.hid (HIA.out.frame (Kept.of_below hbx.out) (fun b hb h => by have := HIA.out.lt hb; omega))
        have HBX := Lib.hid (HBA.out.trans (hbx.out.mono HBA.out.size))
        by_cases hlt : k < xs.length
        · cases a with
          | none => exact absurd (KA.out rfl).1 (by omega)
          | some ad =>
            have cx := rdCellI (HX.out.later HBX.out) hlt
            dsimp only at cx
            obtain ⟨x, hxk⟩ : ∃ x, x = xs[k] := ⟨_, rfl⟩
            have HXK := Lib.hid hxk
            rw [← hxk] at cx
            clear hxk
            unfold maxLen at ka2
            go_wp2_with fail
            refine (scopeFindII HIX.out (by simp) x).mono ?_
            rintro e wy ⟨(⟨rfl, hno⟩ | ⟨i, hi, y, rfl, ⟨j, hj⟩, _⟩), hby⟩
            · exfalso
              refine hno ⟨mb, kv, items⟩ (by simp) ((HIT.out.keys x).2 ?_)
              rw [List.take_length, HXK.out]
              exact List.getElem_mem hlt
            obtain rfl : i = 0 := by simp at hi; omega
            have hmem : (x, y) ∈ items := List.mem_of_getElem? hj
            obtain ⟨i0, hy, hi0, hx0, hfirst⟩ := HIT.out.at_ _ hmem
            dsimp only at hy hx0 hfirst
            subst hy
            have hle : i0 ≤ k := Nat.le_of_not_lt (fun h => hfirst k h (by rw [HXK.out]; simp [hlt]))
            have HBY := Lib.hid (hbx.out.trans (hby.mono (hbx.out.size)))
            have HBZ := Lib.hid (HBX.out.trans (hby.mono HBX.out.size))
            have ck := rdCellI (HX.out.later HBZ.out) hlt
            have ci := rdCellI (HX.out.later HBZ.out) hi0
            dsimp only at ck ci
            have hxi : xs[i0] = x := by simpa [hi0] using hx0
            rw [hxi] at ci
            rw [← HXK.out] at ck
            have hd1 : decide ((k : Int) < (i0 : Int)) = false := by simp; omega
            have hd2 : decide ((i0 : Int) < 0) = false := by simp
            have hd3 : (0 : Int) ≤ (i0 : Int) := by omega
            have hd4 : (i0 : Int) < (xs.length : Int) := by omega
            have hd5 : (k : Int) < (xs.length : Int) := by omega
            have hxx : (x != x) = false := by simp
            unfold encI
            clear hby hbx hmem hj hfirst hx0 hxi cx
            go_wp2_with fail
            go_quiet (fail)
            go_wp2
            go_roundw
            case rel => exact ⟨k + 1, by omega, by go_num, Lib.hid ⟨HBY.out.os, HBY.out.tape, HBY.out.output, HBY.out.size, HBY.out.block⟩⟩
            case measure => simp [intOf]; omega
        · obtain rfl : k = xs.length := by omega
          have HOX := Lib.hid (HOA.out.frame (Kept.of_below hbx.out) (fun b hb h => by have := HOA.out.lt hb; omega))
          go_wp2_with fail
          refine (HH.out _ _ HIX.out).mono ?_
          rintro e wb ⟨vb, rfl, hob, hkb, hnb⟩
          have HOB := Lib.hid hob
          have HOA2 := Lib.hid (HOX.out.frame hkb (fun _ _ => id))
          have HBB := Lib.hid (below_step HBX.out (Nat.le_refl _) hkb (fun _ h => h.elim))
          clear hob hkb hnb
          go_wp2_with fail
          refine (sameI vb (.slice a7 ks.length c7) ks ks wb HOB.out.rd HOA2.out.rd).mono ?_
          rintro e wc ⟨rfl, hkc⟩
          have hdt : decide (ks = ks) = true := by simp
          rw [hdt]
          go_wp2
          go_ret
          exact ⟨rfl, below_step HBB.out (Nat.le_refl _) hkc (fun _ h => h.elim)⟩

set_option maxRecDepth 100000 in
theorem scopeApart_calls : LawCalls Try.prog 3 Try.f3 := by
  intro H enc W args ds ps hval hA hsz
  rw [Try.params3] at hA hval hsz
  obtain ⟨v0, d0, rfl, rfl, h0⟩ := trodAll_one hA
  obtain ⟨base, hok⟩ := hval 0 _ v0 rfl rfl
  obtain ⟨xs, hx, _, hr⟩ := open_ints_arg hok h0
  exact scopeApart_walk v0 xs W hx (hr hsz (j := 0) rfl rfl)

end Go.Proofs.Ytllcklddfcclfaa
