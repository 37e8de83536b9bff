/- The reference's stack: the same in memory. -/
import Derived.Test.YthkkpnlgjkdneaaStkPI
import Derived.StillTailTactics
import Derived.IntWalk
namespace Go.Proofs.Ythkkpnlgjkdneaa
open Go.RowKit
set_option linter.unusedVariables false
set_option linter.unusedSimpArgs false

abbrev RefS := StkIs (α := Int) 89 3 1 encI

theorem refNew (n : Int) (w : World) :
    Calls Try.prog 36 #[.int .i64 n] w fun e w' => (¬ (0 ≤ n ∧ n ≤ 1048576) ∧ e = .returned (.tuple #[.pointer none, .int .i64 1]) ∧ w = w') ∨
      (∃ limit : Nat, n = limit ∧ limit ≤ 1048576 ∧ e = .returned (.tuple #[.pointer (some ⟨w.heap.size, 0, none⟩), .int .i64 0]) ∧ RefS w' (.pointer (some ⟨w.heap.size, 0, none⟩)) (fun b => b = w.heap.size) limit [] ∧ Kept (fun _ => False) w w') := by
  by_cases h : 0 ≤ n ∧ n ≤ 1048576
  · obtain ⟨h0, h1⟩ := h
    obtain ⟨limit, rfl⟩ := Int.eq_ofNat_of_zero_le h0
    have HM := Lib.hid (StkIs.made (T := 89) (e := 3) (sz := 1) (enc := encI) w limit (by omega))
    have HK := Lib.hid ((Kept.refl (fun _ => False) w).alloc (.cells #[.int .i64 limit, .slice none 0 0] 89))
    go_enter Try.func36, Try.ntmps36
    go_wp2
    go_ret2
    exact .inr ⟨limit, rfl, by omega, rfl, HM.out, HK.out⟩
  · have HH := Lib.hid h
    have h' : n < 0 ∨ 1048576 < n := by omega
    clear h
    rcases h' with h' | h'
    · go_enter Try.func36, Try.ntmps36
      go_wp2
      go_ret2
      exact .inl ⟨HH.out, rfl, rfl⟩
    · go_enter Try.func36, Try.ntmps36
      go_wp2
      go_ret2
      exact .inl ⟨HH.out, rfl, rfl⟩

section
variable {p : Value} {F : Nat → Prop} {limit : Nat} {xs : List (Int)} {w : World}

set_option maxHeartbeats 400000 in
theorem refPush (h : RefS w p F limit xs) (vx : Value) (ys : List (Int)) (hx : Rd w 1 vx ys.length (cellsOf encI ys)) :
    Calls Try.prog 37 #[p, vx] w fun e w' => (limit < xs.length + ys.length ∧ e = .returned (.int .i64 3) ∧ Kept (fun _ => False) w w') ∨
      (xs.length + ys.length ≤ limit ∧ e = .returned (.int .i64 0) ∧ ∃ F', RefS w' p F' limit (xs ++ ys) ∧ Kept F w w' ∧ ∀ b, F' b → F b ∨ w.heap.size ≤ b) := by
  obtain ⟨sb, v, rfl, h1, hown, hv1, ⟨hl1, hl2⟩, hF⟩ := h
  obtain ⟨a, c, rfl, a1, a2, a3⟩ := hown.shape
  obtain ⟨ax, cx, rfl, x1, x2, x3, _⟩ := id hx.2
  have c0 : w.cell? ⟨sb, 0, none⟩ = some (.int .i64 limit) := cell_of h1 rfl
  have c1 : w.cell? ⟨sb, 1, none⟩ = some (.slice a xs.length c) := cell_of h1 rfl
  have H1 := Lib.hid h1
  have HO := Lib.hid hown
  have HV := Lib.hid hv1
  have HF := Lib.hid hF
  have HX := Lib.hid hx
  unfold maxLen at a2 x2
  have hw1 : IntKind.i64.wrap ((limit : Int) - (xs.length : Int)) = (limit : Int) - (xs.length : Int) := IntWalk.i64_in _ (by omega)
  by_cases hfit : xs.length + ys.length ≤ limit
  · have HFIT := Lib.hid hfit
    have HL := Lib.hid hl1
    have b1 : decide ((limit : Int) - (xs.length : Int) < (ys.length : Int)) = false := by simp; omega
    have HT : Hid (Fits (xs.length + ys.length) 8) := Lib.hid (fits_of (by omega) (by decide))
    clear h1 hown hv1 hF hx a3 x3 hfit hl1 hl2 a1 a2 x1 x2
    go_enter Try.func37, Try.ntmps37
    go_wp2_with fail
    go_quiet (fail)
    have D1 : Hid ((w.drewN nq).heap[sb]? = some (.cells #[.int .i64 limit, .slice a xs.length c] 89 (0, 0))) := Lib.hid H1.out
    have DO : Hid (Own (w.drewN nq) 3 1 (.slice a xs.length c) xs.length (cellsOf encI xs)) := Lib.hid HO.out
    have DX : Hid (Rd (w.drewN nq) 1 (.slice ax ys.length cx) ys.length (cellsOf encI ys)) := Lib.hid HX.out
    have DK : Hid (Kept (fun _ => False) w (w.drewN nq)) := Lib.hid ((Kept.refl _ w).drewN nq)
    clear c0 c1 H1 HO HX
    generalize w.drewN nq = wd at D1 DO DX DK ⊢
    have c1 : wd.cell? ⟨sb, 1, none⟩ = some (.slice a xs.length c) := cell_of D1.out rfl
    go_wp2_with (first
      | (at_builtin; refine wpList_append slInt (v := .slice a xs.length c) (vx := .slice ax ys.length cx) (news := cellsOf encI ys) (m := ys.length) rfl _ _ rfl rfl rfl DO.out DX.out (oneI ys) HT.out ?_
         intro v2 w2 hown2 hk2 hb2 _
         obtain ⟨a2, c2, rfl, _, _, _⟩ := hown2.shape
         have e2 := Lib.hid ((hk2.block sb (heap_lt D1.out) HV.out).trans D1.out)
         have d2 : w2.cell? ⟨sb, 1, none⟩ = some (.slice a xs.length c) := cell_of e2.out rfl
         have f2 : w2.frozen? ⟨sb, 1, none⟩ = false := frozen_of e2.out))
    go_ret
    obtain ⟨F', r1, r2, r3⟩ := StkIs.pushed (ys := ys) D1.out HV.out ⟨HL.out, HFIT.out⟩ hk2 hown2 hb2 e2.out
    have hs := DK.out.size
    exact .inr ⟨HFIT.out, rfl, F', r1, (DK.out.mono (fun _ _ h => h.elim)).trans' r2 (fun i _ h => (HF.out i).2 h), fun b hb => (r3 b hb).imp (HF.out b).2 (fun h => by omega)⟩
  · have HFIT := Lib.hid (show limit < xs.length + ys.length by omega)
    have b1 : decide ((limit : Int) - (xs.length : Int) < (ys.length : Int)) = true := by simp; omega
    clear h1 hown hv1 hF hx a3 x3 hfit hl1 hl2 a1 a2 x1 x2
    go_enter Try.func37, Try.ntmps37
    go_wp2_with fail
    go_quiet (fail)
    go_wp2
    go_ret
    exact .inl ⟨HFIT.out, rfl, (Kept.refl _ w).drewN _⟩

theorem refList (h : RefS w p F limit xs) :
    Calls Try.prog 43 #[p] w fun e w' => ∃ v, e = .returned v ∧ Fresh w w' 3 1 v xs.length (cellsOf encI xs) := by
  obtain ⟨sb, v, rfl, h1, hown, hv1, hl, hF⟩ := h
  obtain ⟨a, c, rfl, a1, a2, a3⟩ := hown.shape
  have c1 : w.cell? ⟨sb, 1, none⟩ = some (.slice a xs.length c) := cell_of h1 rfl
  have c2 : (w.alloc (.cells #[] 3)).cell? ⟨sb, 1, none⟩ = some (.slice a xs.length c) := cell_of (heap_alloc h1 _) rfl
  have HO := Lib.hid hown
  have HT : Hid (Fits (0 + xs.length) 8) := Lib.hid (by rw [Nat.zero_add]; exact fits_of (by omega) (by decide))
  clear h1 hown hv1 hF a3 hl
  go_enter Try.func43, Try.ntmps43
  go_wp2_with (at_builtin; refine wpList_append slInt (v := .slice (some ⟨w.heap.size, 0, none⟩) 0 0) (vx := .slice a xs.length c) (news := cellsOf encI xs) (n := 0) (m := xs.length) (xs := []) rfl _ _ rfl rfl rfl (Own.fresh (n := 0) (by rfl) (by decide)) (HO.out.alloc _).rd (oneI xs) HT.out ?_; intro v7 w7 ho7 hk7 hb7 _; obtain ⟨a7, c7, rfl, u1, u2, u3⟩ := ho7.shape)
  go_ret
  refine ⟨_, rfl, by simpa using ho7, ((Kept.refl _ w).alloc (.cells #[] 3)).trans' hk7 (fun i hi h => by simp [Value.ownBlock] at h; omega), fun b hb => ?_⟩
  rcases hb7 b (by simpa using hb) with h | h
  · simp [Value.ownBlock] at h; omega
  · simp at h; omega

set_option maxRecDepth 100000 in
set_option maxHeartbeats 1000000 in
theorem refPop (h : RefS w p F limit xs) (n : Int) :
    Calls Try.prog 38 #[p, .int .i64 n] w fun e w' => (n < 0 ∧ e = .returned (.tuple #[.slice none 0 0, .int .i64 1]) ∧ w = w') ∨ ((xs.length : Int) < n ∧ e = .returned (.tuple #[.slice none 0 0, .int .i64 4]) ∧ w = w') ∨
      ∃ (k : Nat) (v : Value) (F' : Nat → Prop), (xs.length : Int) = k + n ∧ k ≤ xs.length ∧ e = .returned (.tuple #[v, .int .i64 0]) ∧ Own w' 3 1 v (xs.length - k) (cellsOf encI (xs.drop k)) ∧ (∀ b, v.ownBlock = some b → w.heap.size ≤ b ∧ ¬ F' b) ∧ RefS w' p F' limit (xs.take k) ∧ Kept F w w' ∧ ∀ b, F' b → F b ∨ w.heap.size ≤ b := by
  obtain ⟨sb, v, rfl, h1, hown, hv1, hl, hF⟩ := h
  obtain ⟨a, c, rfl, a1, a2, a3⟩ := hown.shape
  have c1 : w.cell? ⟨sb, 1, none⟩ = some (.slice a xs.length c) := cell_of h1 rfl
  have H1 := Lib.hid h1
  have HO := Lib.hid hown
  have HV := Lib.hid hv1
  have HF := Lib.hid hF
  have HL := Lib.hid hl
  unfold maxLen at a2
  rcases Int.lt_or_le n 0 with hn | hn
  · clear h1 hown hv1 hF a3 hl
    go_enter Try.func38, Try.ntmps38
    go_wp2
    go_ret2
    exact .inl ⟨hn, rfl, rfl⟩
  · rcases Int.lt_or_le (xs.length : Int) n with hn2 | hn2
    · clear h1 hown hv1 hF a3 hl
      go_enter Try.func38, Try.ntmps38
      go_wp2
      go_ret2
      exact .inr (.inl ⟨hn2, rfl, rfl⟩)
    · obtain ⟨m, rfl⟩ := Int.eq_ofNat_of_zero_le hn
      obtain ⟨k, hk⟩ : ∃ k, xs.length = k + m := ⟨xs.length - m, by omega⟩
      have hsub : (xs.length : Int) - (m : Int) = (k : Int) := by omega
      have hot := (hown.tailV (k := k) (by omega)).rd
      have hoh := (hown.sub (k := k) (by omega)).rd
      have htl := fun w => run_slice_tail slInt w a (n := xs.length) (c := c) (k := k) (by omega) a1
      have hhd := fun w => run_slice_head slInt w a (n := xs.length) (c := c) (k := k) (by omega)
      rw [cellsOf_drop sizeI xs (by omega)] at hot
      rw [cellsOf_take sizeI xs (by omega)] at hoh
      generalize tailV a xs.length c k 1 = tv at hot htl
      have HT1 : Hid (Fits (0 + (xs.length - k)) 8) := Lib.hid (fits_of (by omega) (by decide))
      have HT2 : Hid (Fits (0 + k) 8) := Lib.hid (fits_of (by omega) (by decide))
      have hb1 : decide ((xs.length : Int) < (m : Int)) = false := by simp; omega
      have HKL := Lib.hid (show k ≤ xs.length by omega)
      have HK := Lib.hid hk
      have HOT := Lib.hid hot
      have HOH := Lib.hid hoh
      have hkc : k ≤ c := by omega
      have c1' := cell_of (i := 1) (heap_alloc h1 (.cells #[] 3)) rfl
      clear h1 hown hv1 hF a3 hl hot hk hoh
      go_enter Try.func38, Try.ntmps38
      go_wp2_with (first
        | (at_builtin; refine wpList_append slInt (v := .slice (some ⟨w.heap.size, 0, none⟩) 0 0) (vx := tv) (news := cellsOf encI (xs.drop k)) (n := 0) (m := xs.length - k) (xs := []) rfl _ _ rfl rfl rfl (Own.fresh (n := 0) (by rfl) (by decide)) (HOT.out.alloc _) (oneI _) HT1.out ?_
           intro v2 w2 ho2 hk2 hb2 _
           rw [Nat.zero_add, List.nil_append] at ho2
           have N2 := Lib.hid (show ∀ b, v2.ownBlock = some b → w.heap.size ≤ b from fun b hb => (hb2 b hb).elim (fun h => by simp [Value.ownBlock] at h; omega) (fun h => by simp at h; omega))
           have K2 := Lib.hid (show Kept (fun _ => False) w w2 from ((Kept.refl (fun _ => False) w).alloc _).trans' hk2 (fun i hi h => by simp [Value.ownBlock] at h; omega))
           have O2 := Lib.hid ho2
           have D2 := Lib.hid ((K2.out.block sb (heap_lt H1.out) (fun h => h)).trans H1.out)
           have d2 : w2.cell? ⟨sb, 1, none⟩ = some (.slice a xs.length c) := cell_of D2.out rfl
           have d2' : (w2.alloc (.cells #[] 3)).cell? ⟨sb, 1, none⟩ = some (.slice a xs.length c) := cell_of (heap_alloc D2.out _) rfl
           clear ho2 hk2 hb2)
        | (at_builtin; refine wpList_append slInt (v := .slice (some ⟨w2.heap.size, 0, none⟩) 0 0) (vx := .slice a k c) (news := cellsOf encI (xs.take k)) (n := 0) (m := k) (xs := []) rfl _ _ rfl rfl rfl (Own.fresh (n := 0) (by rfl) (by decide)) ((HOH.out.frame K2.out (fun _ _ => id)).alloc _) (oneI _) HT2.out ?_
           intro v3 w3 ho3 hk3 hb3 _
           rw [Nat.zero_add, List.nil_append] at ho3
           obtain ⟨a3, c3, rfl, _, _, _⟩ := ho3.shape
           have N3 := Lib.hid (show ∀ b, (Value.slice a3 k c3).ownBlock = some b → w2.heap.size ≤ b from fun b hb => (hb3 b hb).elim (fun h => by simp [Value.ownBlock] at h; omega) (fun h => by simp at h; omega))
           have K3 := Lib.hid (show Kept (fun _ => False) w2 w3 from ((Kept.refl (fun _ => False) w2).alloc _).trans' hk3 (fun i hi h => by simp [Value.ownBlock] at h; omega))
           have O3 := Lib.hid ho3
           have D3 := Lib.hid ((K3.out.block sb (heap_lt D2.out) (fun h => h)).trans D2.out)
           have d3 : w3.cell? ⟨sb, 1, none⟩ = some (.slice a xs.length c) := cell_of D3.out rfl
           have f3 : w3.frozen? ⟨sb, 1, none⟩ = false := frozen_of D3.out
           clear ho3 hk3 hb3))
      go_ret2
      have hn3 : (Value.slice a3 k c3).ownBlock ≠ some sb := fun h => by have := N3.out sb h; have := heap_lt D2.out; omega
      have hkk : Kept F w (w3.setCell ⟨sb, 1, none⟩ (.slice a3 k c3)) := (((K2.out.trans K3.out).mono (fun _ _ h => h.elim))).setCell (fun _ => (HF.out sb).2 (.inl rfl)) _
      have hrs : RefS (w3.setCell ⟨sb, 1, none⟩ (.slice a3 k c3)) (.pointer (some ⟨sb, 0, none⟩)) (fun b => b = sb ∨ (Value.slice a3 k c3).ownBlock = some b) limit (xs.take k) := by
        have hl : (xs.take k).length = k := by have := HKL.out; simp; omega
        refine ⟨sb, _, rfl, by simpa using heap_set (o := 1) D3.out (.slice a3 k c3), ?_, hn3, ⟨HL.out.1, by have := HL.out.2; have := HKL.out; omega⟩, fun _ => Iff.rfl⟩
        rw [hl]
        exact O3.out.setCell hn3 _
      have hv2 : ∀ b, v2.ownBlock = some b → w.heap.size ≤ b ∧ ¬ (b = sb ∨ (Value.slice a3 k c3).ownBlock = some b) := fun b hb => ⟨N2.out b hb, fun h => by
        rcases h with h | h
        · have := N2.out b hb; have := heap_lt H1.out; omega
        · have := N3.out b h; have := O2.out.lt hb; omega⟩
      refine .inr (.inr ⟨k, v2, _, by have := HK.out; omega, HKL.out, rfl, ?_, hv2, hrs, hkk, fun b hb => ?_⟩)
      · exact (O2.out.frame K3.out (fun _ _ => id)).setCell (fun h => (hv2 sb h).2 (.inl rfl)) _
      · rcases hb with h | h
        · exact .inl ((HF.out b).2 (.inl h))
        · exact .inr (Nat.le_trans K2.out.size (N3.out b h))

theorem refPeek (h : RefS w p F limit xs) (n : Int) :
    Calls Try.prog 39 #[p, .int .i64 n] w fun e w' => ((n < 0 ∨ (xs.length : Int) ≤ n) ∧ e = .returned (.tuple #[.int .i64 0, .int .i64 2]) ∧ Kept (fun _ => False) w w') ∨
      ∃ (j : Nat) (hj : j < xs.length), (xs.length : Int) = j + 1 + n ∧ e = .returned (.tuple #[.int .i64 xs[j], .int .i64 0]) ∧ Kept (fun _ => False) w w' := by
  obtain ⟨sb, v, rfl, h1, hown, hv1, hl, hF⟩ := h
  obtain ⟨a, c, rfl, a1, a2, a3⟩ := hown.shape
  have c1 : w.cell? ⟨sb, 1, none⟩ = some (.slice a xs.length c) := cell_of h1 rfl
  unfold maxLen at a2
  rcases Int.lt_or_le n 0 with hn | hn
  · clear h1 hown hv1 hF a3 hl
    go_enter Try.func39, Try.ntmps39
    go_wp2
    go_ret2
    exact .inl ⟨.inl hn, rfl, Kept.refl _ _⟩
  · rcases Int.lt_or_le n (xs.length : Int) with hn2 | hn2
    · obtain ⟨m, rfl⟩ := Int.eq_ofNat_of_zero_le hn
      obtain ⟨j, hj⟩ : ∃ j, xs.length = j + 1 + m := ⟨xs.length - 1 - m, by omega⟩
      cases a with
      | none => exact absurd (a3 rfl).1 (by omega)
      | some ad =>
        have hjl : j < xs.length := by omega
        have cx := rdCellI hown.rd hjl
        dsimp only at cx
        have HJ := Lib.hid hj
        have HJL := Lib.hid hjl
        have hs1 : IntKind.i64.wrap ((xs.length : Int) - 1) = (xs.length : Int) - 1 := IntWalk.i64_in _ (by omega)
        have hs2 : IntKind.i64.wrap ((xs.length : Int) - 1 - (m : Int)) = (j : Int) := by rw [IntWalk.i64_in _ (by omega)]; omega
        have hb : decide ((xs.length : Int) ≤ (m : Int)) = false := by simp; omega
        generalize hx : xs[j] = x at cx
        have HX := Lib.hid hx
        clear h1 hown hv1 hF a3 hl hj hx
        go_enter Try.func39, Try.ntmps39
        go_wp2_with fail
        go_quiet (fail)
        go_wp2
        go_ret2
        have := HJ.out
        exact .inr ⟨j, HJL.out, by omega, congrArg (fun t => Ending.returned (.tuple #[.int .i64 t, .int .i64 0])) HX.out.symm, (Kept.refl _ w).drewN _⟩
    · have hb : decide ((xs.length : Int) ≤ n) = true := by simp; omega
      clear h1 hown hv1 hF a3 hl
      go_enter Try.func39, Try.ntmps39
      go_wp2
      go_ret2
      exact .inl ⟨.inr hn2, rfl, Kept.refl _ _⟩

theorem refPut (h : RefS w p F limit xs) (n : Int) (x : Int) :
    Calls Try.prog 40 #[p, .int .i64 n, .int .i64 x] w fun e w' => ((n < 0 ∨ (xs.length : Int) ≤ n) ∧ e = .returned (.int .i64 2) ∧ Kept (fun _ => False) w w') ∨
      ∃ (j : Nat), j < xs.length ∧ (xs.length : Int) = j + 1 + n ∧ e = .returned (.int .i64 0) ∧ RefS w' p F limit (xs.set j x) ∧ Kept F w w' := by
  obtain ⟨sb, v, rfl, h1, hown, hv1, hl, hF⟩ := h
  obtain ⟨a, c, rfl, a1, a2, a3⟩ := hown.shape
  have c1 : w.cell? ⟨sb, 1, none⟩ = some (.slice a xs.length c) := cell_of h1 rfl
  have H1 := Lib.hid h1
  have HO := Lib.hid hown
  have HV := Lib.hid hv1
  have HF := Lib.hid hF
  have HL := Lib.hid hl
  unfold maxLen at a2
  rcases Int.lt_or_le n 0 with hn | hn
  · clear h1 hown hv1 hF a3 hl
    go_enter Try.func40, Try.ntmps40
    go_wp2
    go_ret
    exact .inl ⟨.inl hn, rfl, Kept.refl _ _⟩
  · rcases Int.lt_or_le n (xs.length : Int) with hn2 | hn2
    · obtain ⟨m, rfl⟩ := Int.eq_ofNat_of_zero_le hn
      obtain ⟨j, hj⟩ : ∃ j, xs.length = j + 1 + m := ⟨xs.length - 1 - m, by omega⟩
      have hjl : j < xs.length := by omega
      obtain ⟨g, off, cap, hv, _, _, hcl, hfz, hg⟩ := hown.elt (by omega)
      simp only [Value.slice.injEq, true_and] at hv
      obtain ⟨rfl, rfl⟩ := hv
      have cx : w.cell? ⟨g, off + j, none⟩ = some (encI xs[j]) := hcl j _ (by rw [cellsOf_encI]; simp [hjl, encI])
      have fx : w.frozen? ⟨g, off + j, none⟩ = false := hfz _
      unfold encI at cx
      have HJ := Lib.hid hj
      have HJL := Lib.hid hjl
      have hs1 : IntKind.i64.wrap ((xs.length : Int) - 1) = (xs.length : Int) - 1 := IntWalk.i64_in _ (by omega)
      have hs2 : IntKind.i64.wrap ((xs.length : Int) - 1 - (m : Int)) = (j : Int) := by rw [IntWalk.i64_in _ (by omega)]; omega
      have hb : decide ((xs.length : Int) ≤ (m : Int)) = false := by simp; omega
      have hb0 : (j : Int) < (xs.length : Int) := by omega
      have hb00 : (0 : Int) ≤ (j : Int) := by omega
      generalize xs[j] = x' at cx
      clear h1 hown hv1 hF a3 hl hj hcl hfz
      go_enter Try.func40, Try.ntmps40
      go_wp2_with fail
      go_still_tail 14, (by kernel_rfl)
      change wpList _ _ _ _ _ w.drew
      have D1 : Hid (w.drew.heap[sb]? = some (.cells #[.int .i64 limit, .slice (some ⟨g, off, none⟩) xs.length c] 89 (0, 0))) := Lib.hid H1.out
      have DO : Hid (Own w.drew 3 1 (.slice (some ⟨g, off, none⟩) xs.length c) xs.length (cellsOf encI xs)) := Lib.hid HO.out
      have DK : Hid (Kept (fun _ => False) w w.drew) := Lib.hid ((Kept.refl _ w).drew)
      have e1 : w.drew.cell? ⟨g, off + j, none⟩ = _ := cx
      have z1 : w.drew.frozen? ⟨g, off + j, none⟩ = false := fx
      clear cx fx c1 H1 HO hg
      generalize w.drew = wd at D1 DO DK e1 z1 ⊢
      go_wp2
      go_ret
      have hFe : ∀ b, F b ↔ (b = sb ∨ some g = some b) := fun b => by rw [HF.out b]; simp [Value.ownBlock]
      have hgs : sb ≠ g := fun e => HV.out (by simp [Value.ownBlock, e])
      have ho := DO.out.setAt (j := j) (by simp; exact HJL.out) (encI x)
      rw [cellsOf_setI] at ho
      have := HJ.out
      refine .inr ⟨j, HJL.out, by omega, rfl, ⟨sb, _, rfl, (heap_set_ne (p := ⟨g, off + j, none⟩) hgs _).trans D1.out, by rw [List.length_set]; exact ho, HV.out, ⟨HL.out.1, by rw [List.length_set]; exact HL.out.2⟩, HF.out⟩, ?_⟩
      exact (DK.out.mono (fun _ _ h => h.elim)).setCell (fun _ => (hFe g).2 (.inr rfl)) _
    · have hb : decide ((xs.length : Int) ≤ n) = true := by simp; omega
      clear h1 hown hv1 hF a3 hl
      go_enter Try.func40, Try.ntmps40
      go_wp2
      go_ret
      exact .inl ⟨.inr hn2, rfl, Kept.refl _ _⟩

end

/-- The first of a list, or 0. -/
theorem first_any (v : Value) (xs : List Int) (w : World) (hx : Rd w 1 v xs.length (cellsOf encI xs)) :
    Calls Try.prog 41 #[v] w fun e w' => e = .returned (.int .i64 (xs.headD 0)) ∧ w' = w := by
  obtain ⟨_, a, c, rfl, ka1, ka2, ka3, _⟩ := id hx
  cases xs with
  | nil =>
    clear hx ka3
    go_enter Try.func41, Try.ntmps41
    go_wp2
    go_ret
    exact ⟨rfl, rfl⟩
  | cons x xs =>
    cases a with
    | none => exact absurd (ka3 rfl).1 (by simp)
    | some ad =>
      have cx := rdCellI hx (k := 0) (by simp)
      simp only [List.getElem_cons_zero] at cx
      have hposn : 0 < (x :: xs).length := by simp
      have cx0 : w.cell? ad = some (.int .i64 x) := by simpa [Addr.add] using cx
      generalize (x :: xs).length = n at *
      have hpos : (0 : Int) < (n : Int) := by omega
      clear hx ka3
      go_enter Try.func41, Try.ntmps41
      go_wp2
      go_ret
      exact ⟨rfl, rfl⟩

end Go.Proofs.Ythkkpnlgjkdneaa
