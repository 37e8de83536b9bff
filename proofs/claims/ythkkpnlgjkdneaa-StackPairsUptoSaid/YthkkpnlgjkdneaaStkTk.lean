/- The stack's methods at one type: New, Push, Pop, Peek, Put, Len, Limit, List. -/
import Derived.Test.YthkkpnlgjkdneaaCloneT
import Derived.Test.YthkkpnlgjkdneaaStkIs
import Derived.Maps.OwnSet
import Derived.WalkSpells
import Derived.WalkLawsBesides
import Derived.Deep.QuietTactic
import Derived.BigQuiet
namespace Go.Proofs.Ythkkpnlgjkdneaa
open Go.RowKit
set_option linter.unusedVariables false
set_option linter.unusedSimpArgs false

abbrev StkT := StkIs (α := Tok) 87 56 4 encT

theorem sizeT (a : Tok) : (encT a).cells.size = 4 := rfl

theorem stkNewT (n : Int) (w : World) :
    Calls Try.prog 30 #[.int .i64 n] w fun e w' => (¬ (0 ≤ n ∧ n ≤ 1048576) ∧ e = .returned (.tuple #[.pointer none, .int .i64 1]) ∧ w = w') ∨
      (∃ limit : Nat, n = limit ∧ limit ≤ 1048576 ∧ e = .returned (.tuple #[.pointer (some ⟨w.heap.size, 0, none⟩), .int .i64 0]) ∧ StkT w' (.pointer (some ⟨w.heap.size, 0, none⟩)) (fun b => b = w.heap.size) limit [] ∧ Kept (fun _ => False) w w') := by
  by_cases h : 0 ≤ n ∧ n ≤ 1048576
  · obtain ⟨h0, h1⟩ := h
    obtain ⟨limit, rfl⟩ := Int.eq_ofNat_of_zero_le h0
    have HM := Lib.hid (StkIs.made (T := 87) (e := 56) (sz := 4) (enc := encT) w limit (by omega))
    have HK := Lib.hid ((Kept.refl (fun _ => False) w).alloc (.cells #[.int .i64 limit, .slice none 0 0] 87))
    go_enter Try.func30, Try.ntmps30
    go_wp2
    go_ret2
    exact .inr ⟨limit, rfl, by omega, rfl, HM.out, HK.out⟩
  · have HH := Lib.hid h
    have h' : n < 0 ∨ 1048576 < n := by omega
    clear h
    rcases h' with h' | h'
    · go_enter Try.func30, Try.ntmps30
      go_wp2
      go_ret2
      exact .inl ⟨HH.out, rfl, rfl⟩
    · go_enter Try.func30, Try.ntmps30
      go_wp2
      go_ret2
      exact .inl ⟨HH.out, rfl, rfl⟩

section
variable {p : Value} {F : Nat → Prop} {limit : Nat} {xs : List (Tok)} {w : World}

set_option maxHeartbeats 400000 in
theorem stkPushT (h : StkT w p F limit xs) (vx : Value) (ys : List (Tok)) (hx : Rd w 4 vx ys.length (cellsOf encT ys)) :
    Calls Try.prog 31 #[p, vx] w fun e w' => (limit < xs.length + ys.length ∧ e = .returned (.int .i64 3) ∧ Kept (fun _ => False) w w') ∨
      (xs.length + ys.length ≤ limit ∧ e = .returned (.int .i64 0) ∧ ∃ F', StkT w' p F' limit (xs ++ ys) ∧ Kept F w w' ∧ ∀ b, F' b → F b ∨ w.heap.size ≤ b) := by
  obtain ⟨sb, v, rfl, h1, hown, hv1, ⟨hl1, hl2⟩, hF⟩ := h
  obtain ⟨a, c, rfl, a1, a2, a3⟩ := hown.shape
  obtain ⟨ax, cx, rfl, x1, x2, x3, _⟩ := id hx.2
  have c0 : w.cell? ⟨sb, 0, none⟩ = some (.int .i64 limit) := cell_of h1 rfl
  have c1 : w.cell? ⟨sb, 1, none⟩ = some (.slice a xs.length c) := cell_of h1 rfl
  have H1 := Lib.hid h1
  have HO := Lib.hid hown
  have HV := Lib.hid hv1
  have HF := Lib.hid hF
  have HX := Lib.hid hx
  unfold maxLen at a2 x2
  have hw1 : IntKind.i64.wrap ((limit : Int) - (xs.length : Int)) = (limit : Int) - (xs.length : Int) := IntWalk.i64_in _ (by omega)
  by_cases hfit : xs.length + ys.length ≤ limit
  · have HFIT := Lib.hid hfit
    have HL := Lib.hid hl1
    have b1 : decide ((limit : Int) - (xs.length : Int) < (ys.length : Int)) = false := by simp; omega
    have HT : Hid (Fits (xs.length + ys.length) 40) := Lib.hid (fits_of (by omega) (by decide))
    clear h1 hown hv1 hF hx a3 x3 hfit hl1 hl2 a1 a2 x1 x2
    go_enter Try.func31, Try.ntmps31
    go_wp2_with fail
    go_quiet (fail)
    have D1 : Hid ((w.drewN nq).heap[sb]? = some (.cells #[.int .i64 limit, .slice a xs.length c] 87 (0, 0))) := Lib.hid H1.out
    have DO : Hid (Own (w.drewN nq) 56 4 (.slice a xs.length c) xs.length (cellsOf encT xs)) := Lib.hid HO.out
    have DX : Hid (Rd (w.drewN nq) 4 (.slice ax ys.length cx) ys.length (cellsOf encT ys)) := Lib.hid HX.out
    have DK : Hid (Kept (fun _ => False) w (w.drewN nq)) := Lib.hid ((Kept.refl _ w).drewN nq)
    clear c0 c1 H1 HO HX
    generalize w.drewN nq = wd at D1 DO DX DK ⊢
    have c1 : wd.cell? ⟨sb, 1, none⟩ = some (.slice a xs.length c) := cell_of D1.out rfl
    go_wp2_with (first
      | (at_builtin; refine wpList_append slTok (v := .slice a xs.length c) (vx := .slice ax ys.length cx) (news := cellsOf encT ys) (m := ys.length) rfl _ _ rfl rfl rfl DO.out DX.out (oneT ys) HT.out ?_
         intro v2 w2 hown2 hk2 hb2 _
         obtain ⟨a2, c2, rfl, _, _, _⟩ := hown2.shape
         have e2 := Lib.hid ((hk2.block sb (heap_lt D1.out) HV.out).trans D1.out)
         have d2 : w2.cell? ⟨sb, 1, none⟩ = some (.slice a xs.length c) := cell_of e2.out rfl
         have f2 : w2.frozen? ⟨sb, 1, none⟩ = false := frozen_of e2.out))
    go_ret
    obtain ⟨F', r1, r2, r3⟩ := StkIs.pushed (ys := ys) D1.out HV.out ⟨HL.out, HFIT.out⟩ hk2 hown2 hb2 e2.out
    have hs := DK.out.size
    exact .inr ⟨HFIT.out, rfl, F', r1, (DK.out.mono (fun _ _ h => h.elim)).trans' r2 (fun i _ h => (HF.out i).2 h), fun b hb => (r3 b hb).imp (HF.out b).2 (fun h => by omega)⟩
  · have HFIT := Lib.hid (show limit < xs.length + ys.length by omega)
    have b1 : decide ((limit : Int) - (xs.length : Int) < (ys.length : Int)) = true := by simp; omega
    clear h1 hown hv1 hF hx a3 x3 hfit hl1 hl2 a1 a2 x1 x2
    go_enter Try.func31, Try.ntmps31
    go_wp2_with fail
    go_quiet (fail)
    go_wp2
    go_ret
    exact .inl ⟨HFIT.out, rfl, (Kept.refl _ w).drewN _⟩

theorem stkLenT (h : StkT w p F limit xs) :
    Calls Try.prog 53 #[p] w fun e w' => e = .returned (.int .i64 xs.length) ∧ w = w' := by
  obtain ⟨sb, v, rfl, h1, hown, hv1, hl, hF⟩ := h
  obtain ⟨a, c, rfl, a1, a2, a3⟩ := hown.shape
  have c1 : w.cell? ⟨sb, 1, none⟩ = some (.slice a xs.length c) := cell_of h1 rfl
  clear h1 hown hv1 hF a3 hl
  go_enter Try.func53, Try.ntmps53
  go_wp2
  go_ret
  exact ⟨rfl, rfl⟩

theorem stkLimitT (h : StkT w p F limit xs) :
    Calls Try.prog 54 #[p] w fun e w' => e = .returned (.int .i64 limit) ∧ w = w' := by
  obtain ⟨sb, v, rfl, h1, hown, hv1, hl, hF⟩ := h
  have c1 : w.cell? ⟨sb, 0, none⟩ = some (.int .i64 limit) := cell_of h1 rfl
  clear h1 hown hv1 hF hl
  go_enter Try.func54, Try.ntmps54
  go_wp2
  go_ret
  exact ⟨rfl, rfl⟩

theorem stkListT (h : StkT w p F limit xs) :
    Calls Try.prog 52 #[p] w fun e w' => ∃ v, e = .returned v ∧ Fresh w w' 56 4 v xs.length (cellsOf encT xs) := by
  obtain ⟨sb, v, rfl, h1, hown, hv1, hl, hF⟩ := h
  obtain ⟨a, c, rfl, a1, a2, a3⟩ := hown.shape
  have c1 : w.cell? ⟨sb, 1, none⟩ = some (.slice a xs.length c) := cell_of h1 rfl
  have HO := Lib.hid hown
  have HT : Hid (Fits xs.length 40) := Lib.hid (fits_of (by omega) (by decide))
  clear h1 hown hv1 hF a3 hl
  go_enter Try.func52, Try.ntmps52
  go_wp2_with fail
  refine (cloneT _ xs.length (cellsOf encT xs) w HO.out.rd (oneT xs) HT.out).mono ?_
  rintro e w' ⟨v', rfl, hf⟩
  have HFR := Lib.hid hf
  clear hf
  go_wp2
  go_ret
  exact ⟨_, rfl, HFR.out⟩

set_option maxHeartbeats 400000 in
theorem stkPopT (h : StkT w p F limit xs) (n : Int) :
    Calls Try.prog 48 #[p, .int .i64 n] w fun e w' => (n < 0 ∧ e = .returned (.tuple #[.slice none 0 0, .int .i64 1]) ∧ w = w') ∨ ((xs.length : Int) < n ∧ e = .returned (.tuple #[.slice none 0 0, .int .i64 4]) ∧ w = w') ∨
      ∃ (k : Nat) (v : Value), (xs.length : Int) = k + n ∧ k ≤ xs.length ∧ e = .returned (.tuple #[v, .int .i64 0]) ∧ Own w' 56 4 v (xs.length - k) (cellsOf encT (xs.drop k)) ∧ (∀ b, v.ownBlock = some b → w.heap.size ≤ b ∧ ¬ F b) ∧ StkT w' p F limit (xs.take k) ∧ Kept F w w' := by
  obtain ⟨sb, v, rfl, h1, hown, hv1, hl, hF⟩ := h
  obtain ⟨a, c, rfl, a1, a2, a3⟩ := hown.shape
  have c1 : w.cell? ⟨sb, 1, none⟩ = some (.slice a xs.length c) := cell_of h1 rfl
  have H1 := Lib.hid h1
  have HO := Lib.hid hown
  have HV := Lib.hid hv1
  have HF := Lib.hid hF
  have HL := Lib.hid hl
  unfold maxLen at a2
  rcases Int.lt_or_le n 0 with hn | hn
  · clear h1 hown hv1 hF a3 hl
    go_enter Try.func48, Try.ntmps48
    go_wp2
    go_ret2
    exact .inl ⟨hn, rfl, rfl⟩
  · rcases Int.lt_or_le (xs.length : Int) n with hn2 | hn2
    · clear h1 hown hv1 hF a3 hl
      go_enter Try.func48, Try.ntmps48
      go_wp2
      go_ret2
      exact .inr (.inl ⟨hn2, rfl, rfl⟩)
    · obtain ⟨m, rfl⟩ := Int.eq_ofNat_of_zero_le hn
      obtain ⟨k, hk⟩ : ∃ k, xs.length = k + m := ⟨xs.length - m, by omega⟩
      have hsub : (xs.length : Int) - (m : Int) = (k : Int) := by omega
      have hot := (hown.tailV (k := k) (by omega)).rd
      have hcl := fun (w1 : World) (h : Own w1 56 4 (.slice a xs.length c) xs.length (cellsOf encT xs)) => run_clear_tail slTok 0 h (k := k) (by omega) (by simp [Value.cells, Value.oneCell'])
      have htl := fun w => run_slice_tail slTok w a (n := xs.length) (c := c) (k := k) (by omega) a1
      rw [cellsOf_drop sizeT xs (by omega)] at hot
      rw [cellsOf_take sizeT xs (by omega)] at hcl
      generalize tailV a xs.length c k 4 = tv at hot hcl htl
      have HT : Hid (Fits (xs.length - k) 40) := Lib.hid (fits_of (by omega) (by decide))
      have hb1 : decide ((xs.length : Int) < (m : Int)) = false := by simp; omega
      have HKL := Lib.hid (show k ≤ xs.length by omega)
      have HK := Lib.hid hk
      have HOT := Lib.hid hot
      have HCL := Lib.hid hcl
      have hkc : k ≤ c := by omega
      clear h1 hown hv1 hF a3 hl hot hcl hk
      go_enter Try.func48, Try.ntmps48
      go_wp2_with fail
      refine (cloneT tv (xs.length - k) (cellsOf encT (xs.drop k)) w HOT.out (oneT _) HT.out).mono ?_
      rintro e w1 ⟨v', rfl, ho1, hk1, hn1⟩
      have D1 := Lib.hid ((hk1.block sb (heap_lt H1.out) (fun h => h)).trans H1.out)
      have d1 : w1.cell? ⟨sb, 1, none⟩ = some (.slice a xs.length c) := cell_of D1.out rfl
      obtain ⟨w2, hrun, ho2, hk2⟩ := HCL.out w1 (HO.out.frame hk1 (fun _ _ => id))
      have D2 := Lib.hid ((hk2.block sb (heap_lt D1.out) HV.out).trans D1.out)
      have d2 : w2.cell? ⟨sb, 1, none⟩ = some (.slice a xs.length c) := cell_of D2.out rfl
      have f2 : w2.frozen? ⟨sb, 1, none⟩ = false := frozen_of D2.out
      have O1 := Lib.hid ho1
      have O2 := Lib.hid ho2
      have K1 := Lib.hid hk1
      have K2 := Lib.hid hk2
      have N1 := Lib.hid hn1
      clear ho1 ho2 hk1 hk2 hn1
      go_wp2
      go_ret2
      obtain ⟨r1, r2⟩ := StkIs.popped D1.out HV.out HL.out HKL.out K2.out O2.out
      have hnF : ∀ b, v'.ownBlock = some b → w.heap.size ≤ b ∧ ¬ F b := fun b hb => ⟨N1.out b hb, fun h => by
        have h5 := N1.out b hb
        rcases (HF.out b).1 h with rfl | h
        · have := heap_lt H1.out; omega
        · have := HO.out.lt h; omega⟩
      have hFe : (fun b => b = sb ∨ (Value.slice a xs.length c).ownBlock = some b) = F := funext fun b => propext (HF.out b).symm
      rw [hFe] at r1 r2
      refine .inr (.inr ⟨k, v', ?_, HKL.out, rfl, (O1.out.frame r2 (fun b hb => (hnF b hb).2)), hnF, r1, (K1.out.mono (fun _ _ h => h.elim)).trans r2⟩)
      have := HK.out
      omega

theorem stkPlaceT (h : StkT w p F limit xs) (n : Int) :
    Calls Try.prog 58 #[p, .int .i64 n] w fun e w' => ((n < 0 ∨ (xs.length : Int) ≤ n) ∧ e = .returned (.tuple #[.int .i64 0, .int .i64 2]) ∧ w = w') ∨
      ∃ j : Nat, j < xs.length ∧ (xs.length : Int) = j + 1 + n ∧ e = .returned (.tuple #[.int .i64 j, .int .i64 0]) ∧ w = w' := by
  obtain ⟨sb, v, rfl, h1, hown, hv1, hl, hF⟩ := h
  obtain ⟨a, c, rfl, a1, a2, a3⟩ := hown.shape
  have c1 : w.cell? ⟨sb, 1, none⟩ = some (.slice a xs.length c) := cell_of h1 rfl
  unfold maxLen at a2
  rcases Int.lt_or_le n 0 with hn | hn
  · clear h1 hown hv1 hF a3 hl
    go_enter Try.func58, Try.ntmps58
    go_wp2
    go_ret2
    exact .inl ⟨.inl hn, rfl, rfl⟩
  · rcases Int.lt_or_le n (xs.length : Int) with hn2 | hn2
    · obtain ⟨m, rfl⟩ := Int.eq_ofNat_of_zero_le hn
      obtain ⟨j, hj⟩ : ∃ j, xs.length = j + 1 + m := ⟨xs.length - 1 - m, by omega⟩
      have HJ := Lib.hid hj
      have hs1 : IntKind.i64.wrap ((xs.length : Int) - 1) = (xs.length : Int) - 1 := IntWalk.i64_in _ (by omega)
      have hs2 : (xs.length : Int) - 1 - (m : Int) = (j : Int) := by omega
      have hb : decide ((xs.length : Int) ≤ (m : Int)) = false := by simp; omega
      clear h1 hown hv1 hF a3 hl hj
      go_enter Try.func58, Try.ntmps58
      go_wp2
      go_ret2
      have := HJ.out
      exact .inr ⟨j, by omega, by omega, by simp, rfl⟩
    · have hb : decide ((xs.length : Int) ≤ n) = true := by simp; omega
      clear h1 hown hv1 hF a3 hl
      go_enter Try.func58, Try.ntmps58
      go_wp2
      go_ret2
      exact .inl ⟨.inr hn2, rfl, rfl⟩

end

end Go.Proofs.Ythkkpnlgjkdneaa
