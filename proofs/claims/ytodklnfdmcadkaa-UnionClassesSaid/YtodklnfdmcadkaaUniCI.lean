/- The union's methods at one type: Class. -/
import Derived.Test.YtodklnfdmcadkaaUniJI
import Derived.Test.YtodklnfdmcadkaaMakeIs
namespace Go.Proofs.Ytodklnfdmcadkaa
open Go.RowKit
set_option linter.unusedVariables false
set_option linter.unusedSimpArgs false

section
variable {p : Value} {F : Nat → Prop} {ρ : Nat → Nat} {vals : List (Int)} {w : World}

/-- How far the marking is from its end. -/
def markLeftI (mb : Nat) (R : List Nat) (i : Value) (w : World) : Nat :=
  match w.cell? ⟨mb, (intOf i).toNat, none⟩ with
  | some (.bool true) => 0
  | _ => R.length - R.idxOf (intOf i).toNat

/-- The marks of the cells R out of n. -/
def marksI (n : Nat) (R : List Nat) : List Value := (List.range n).map fun x => .bool (decide (x ∈ R))

theorem marksGetI {n x : Nat} (R : List Nat) (hx : x < n) : (marksI n R)[x]? = some (.bool (decide (x ∈ R))) := by simp [marksI, hx]

theorem marksSetI {n x : Nat} (R : List Nat) (hx : x < n) : (marksI n R).set x (.bool true) = marksI n (R ++ [x]) := by
  apply List.ext_getElem (by simp [marksI])
  intro i h1 h2
  simp only [marksI, List.getElem_set, List.getElem_map, List.getElem_range]
  split
  · rename_i e; subst e; simp
  · rename_i e; simp [Ne.symm e]

theorem clsStepI {k a : Nat} (ρ : Nat → Nat) : clsOf (k + 1) ρ a = clsOf k ρ a ++ (if ρ k = a then [(k : Int)] else []) := by
  unfold clsOf
  rw [List.range_succ, List.filter_append, List.map_append]
  by_cases h : ρ k = a <;> simp [h]

theorem clsLeI (n : Nat) (ρ : Nat → Nat) (a : Nat) : (clsOf n ρ a).length ≤ n := by
  have := List.length_filter_le (fun k => decide (ρ k = a)) (List.range n)
  simpa [clsOf] using this

theorem uniClass0I (h : UniI w p F ρ vals) {i : Int} (hi : i < 0 ∨ (vals.length : Int) ≤ i) :
    Calls Try.prog 14 #[p, .int .i64 i] w fun e w' => e = .returned (.tuple #[.slice none 0 0, .int .i64 2]) ∧ w = w' := by
  have HP := Lib.hid (uniLeast0I h hi)
  clear h hi
  go_enter Try.func14, Try.ntmps14
  go_wp2_with fail
  refine HP.out.mono ?_
  rintro e w' ⟨rfl, rfl⟩
  go_wp2
  go_ret2
  exact ⟨rfl, rfl⟩

theorem idxGetI {R : List Nat} (hd : R.Nodup) {t : Nat} (ht : t < R.length) : R.idxOf R[t] = t := by
  induction R generalizing t with
  | nil => simp at ht
  | cons a R ih =>
    rw [List.nodup_cons] at hd
    cases t with
    | zero => simp
    | succ t =>
      have h1 : R[t]'(by simpa using ht) ∈ R := List.getElem_mem _
      have h2 : ¬ a = R[t]'(by simpa using ht) := fun e => hd.1 (e ▸ h1)
      have h3 : (a == R[t]'(by simpa using ht)) = false := by simpa using h2
      simp [List.idxOf_cons, h3, ih hd.2 (t := t) (by simpa using ht)]

theorem notTakeI {R : List Nat} (hd : R.Nodup) {t : Nat} (ht : t < R.length) : R[t] ∉ R.take t := fun h => by
  obtain ⟨i, hi, he⟩ := List.mem_iff_getElem.1 h
  rw [List.getElem_take] at he
  rw [List.length_take] at hi
  have h1 := idxGetI hd (t := i) (by omega)
  have h2 := idxGetI hd ht
  rw [he, h2] at h1
  omega

theorem markLeft_eqI {R : List Nat} {mb t x rt : Nat} (hd : R.Nodup) (ht : t ≤ R.length) (hx : (R ++ [rt])[t]? = some x) (hrt : rt ∈ R) (hc : w.cell? ⟨mb, x, none⟩ = some (.bool (decide (x ∈ R.take t)))) :
    markLeftI mb R (.int .i64 (x : Int)) w = R.length - t := by
  unfold markLeftI
  simp only [intOf, Int.toNat_natCast, hc]
  by_cases hlt : t < R.length
  · rw [List.getElem?_append_left hlt, List.getElem?_eq_getElem hlt] at hx
    simp only [Option.some.injEq] at hx
    subst hx
    simp [notTakeI hd hlt, idxGetI hd hlt]
  · obtain rfl : t = R.length := by omega
    simp at hx
    subst hx
    simp [hrt]

set_option maxRecDepth 100000 in
set_option maxHeartbeats 1000000 in
theorem uniClass1I (h : UniI w p F ρ vals) {j : Nat} (hj : j < vals.length) (hn : vals.length * 8 ≤ 140737488355328) :
    Calls Try.prog 14 #[p, .int .i64 j] w fun e w' => ∃ v, e = .returned (.tuple #[v, .int .i64 0]) ∧ UniI w' p F ρ vals ∧ Kept F w w' ∧
      Own w' 3 1 v (clsOf vals.length ρ (ρ j)).length (cellsOf encI (clsOf vals.length ρ (ρ j))) ∧ ∀ b, v.ownBlock = some b → w.heap.size ≤ b := by
  have hrl := h.le hj
  have hri := h.idem hj
  have HP := Lib.hid (uniLeast1I h hj)
  generalize hrt : ρ j = rt at hrl hri HP ⊢
  have HN := Lib.hid hn
  have HRI := Lib.hid hri
  have hr0 : rt < vals.length := by omega
  generalize hnn : vals.length = n at hj hr0 HN ⊢
  clear h hn hrt hri
  go_enter Try.func14, Try.ntmps14
  go_wp2_with fail
  refine HP.out.mono ?_
  rintro e w1 ⟨rfl, hu, hk⟩
  have HU := Lib.hid hu
  have HK := Lib.hid hk
  obtain ⟨cs, ⟨sb, v, rfl, h1, hown, hv1, hF⟩, hinv, hring, rfl⟩ := hu
  obtain ⟨tl, hring⟩ := hring
  rw [List.length_map] at hnn
  subst hnn
  obtain ⟨rnd, rmem, rgo⟩ := hring rt hr0 HRI.out
  generalize hR : rt :: tl rt = R at rnd rmem rgo
  obtain ⟨g, off, c, rfl, q1, q2, hcl, hfz, hg⟩ := hown.elt (by omega)
  have c0 : w1.cell? ⟨sb, 0, none⟩ = some (.slice (some ⟨g, off, none⟩) cs.length c) := cell_of h1 rfl
  obtain ⟨wm, hrun, hmo, hmk, hms⟩ := run_make_one slBool rfl w1 cs.length cs.length (Nat.le_refl _) (by have := HN.out; omega) (by omega)
  have hrun := hrun _ _ rfl rfl
  have hml : cs.length ≤ 9223372036854775807 := by unfold maxLen at q2; omega
  have hR0 : R[0]? = some rt := by rw [← hR]; rfl
  have hrm : rt ∈ R := by rw [← hR]; simp
  have hRl : 0 < R.length := by rw [← hR]; simp
  have HMO := Lib.hid (show Own wm 4 1 (.slice (some ⟨w1.heap.size, 0, none⟩) cs.length cs.length) cs.length (marksI cs.length []) from by
    have e : marksI cs.length [] = List.replicate cs.length (.bool false) := by simp [marksI, List.map_const']
    rw [e]; exact hmo)
  have HMK := Lib.hid hmk
  have HMS := Lib.hid hms
  have HOW := Lib.hid hown
  have H1 := Lib.hid h1
  have HV := Lib.hid hv1
  have HND := Lib.hid rnd
  have HMEM := Lib.hid rmem
  have HGO := Lib.hid rgo
  have HRM := Lib.hid hrm
  have HR0 := Lib.hid hR0
  have HRL := Lib.hid hRl
  have HW1 := Lib.hid (show sb < w1.heap.size ∧ g < w1.heap.size from ⟨heap_lt h1, hg⟩)
  clear hk h1 hown hv1 hF hinv hring hcl hfz hmo hmk hms rnd rmem rgo hR hrm hR0 hRl
  go_wp2
  clear hrun c0
  go_loopw [9] (fun i wr => ∃ t x : Nat, i = .int .i64 x ∧ Hid (t ≤ R.length ∧ (R ++ [rt])[t]? = some x ∧ Own wr 4 1 (.slice (some ⟨w1.heap.size, 0, none⟩) cs.length cs.length) cs.length (marksI cs.length (R.take t)) ∧ Kept (fun b => b = w1.heap.size) w1 wr)) (fun i wr => markLeftI w1.heap.size R i wr)
  case atStart => exact ⟨0, rt, rfl, Lib.hid ⟨Nat.zero_le _, by rw [List.getElem?_append_left HRL.out]; exact HR0.out, HMO.out, HMK.out.mono (fun _ _ h => h.elim)⟩⟩
  case round =>
    obtain ⟨t, x, rfl, hH⟩ := hrel
    obtain ⟨ht, hx, ho, hkk⟩ := hH.out
    have hxl : x < cs.length := by
      have h2 : x ∈ R ++ [rt] := List.mem_of_getElem? hx
      rcases List.mem_append.1 h2 with h3 | h3
      · exact ((HMEM.out x).1 h3).1
      · simp at h3; omega
    obtain ⟨g', off', cap', hv', _, _, hcl, hfz, _⟩ := ho.elt (by omega)
    simp only [Value.slice.injEq, Option.some.injEq, Addr.mk.injEq, true_and, and_true] at hv'
    obtain ⟨⟨rfl, rfl⟩, rfl⟩ := hv'
    have m0 : wr.cell? ⟨w1.heap.size, x, none⟩ = some (.bool (decide (x ∈ R.take t))) := by
      have := hcl x _ (marksGetI _ hxl)
      simpa using this
    have mf : wr.frozen? ⟨w1.heap.size, x, none⟩ = false := hfz _
    have hk0 := (hkk.block sb HW1.out.1 (by have := HW1.out.1; omega)).trans H1.out
    have d0 : wr.cell? ⟨sb, 0, none⟩ = some (.slice (some ⟨g, off, none⟩) cs.length c) := cell_of hk0 rfl
    have hog := HOW.out.frame hkk (fun b hb => by have := HW1.out.2; simp [Value.ownBlock] at hb; omega)
    have e1 := (cellCI hog rfl hxl).2.1
    have hne1 : ¬ sb = w1.heap.size := by have := HW1.out.1; omega
    have hne2 : ¬ g = w1.heap.size := by have := HW1.out.2; omega
    have hi1 : (x : Int) < (cs.length : Int) := by omega
    have HML := Lib.hid (markLeft_eqI (mb := w1.heap.size) HND.out ht hx HRM.out m0)
    by_cases hlt : t < R.length
    · have hxR : x = R[t] := by
        rw [List.getElem?_append_left hlt, List.getElem?_eq_getElem hlt] at hx
        simpa using hx.symm
      have hnt : decide (x ∈ R.take t) = false := by
        rw [hxR]; simpa using notTakeI HND.out hlt
      rw [hnt] at m0
      have hset := ho.setAt (j := x) (by omega) (.bool true)
      rw [Nat.zero_add, marksSetI _ hxl, show R.take t ++ [x] = R.take (t + 1) from by rw [List.take_succ_eq_append_getElem hlt, ← hxR]] at hset
      have hgo := HGO.out.get hlt
      rw [← hxR, nx_eq hxl] at hgo
      have hxn : (R ++ [rt])[t + 1]? = some cs[x].2.1 := by rw [hgo, List.getElem?_eq_getElem]
      generalize cs[x].2.1 = y at e1 hxn
      have hyl : y < cs.length := by
        have h2 : y ∈ R ++ [rt] := List.mem_of_getElem? hxn
        rcases List.mem_append.1 h2 with h3 | h3
        · exact ((HMEM.out y).1 h3).1
        · simp at h3; omega
      have hm2 : (wr.setCell ⟨w1.heap.size, x, none⟩ (.bool true)).cell? ⟨w1.heap.size, y, none⟩ = some (.bool (decide (y ∈ R.take (t + 1)))) := by
        obtain ⟨g', off', cap', hv', _, _, hcl, _, _⟩ := hset.elt (by omega)
        simp only [Value.slice.injEq, Option.some.injEq, Addr.mk.injEq, true_and, and_true] at hv'
        obtain ⟨⟨rfl, rfl⟩, rfl⟩ := hv'
        have := hcl y _ (marksGetI _ hyl)
        simpa using this
      have HML2 := Lib.hid (markLeft_eqI (mb := w1.heap.size) HND.out (show t + 1 ≤ R.length by omega) hxn HRM.out hm2)
      have Q := Lib.hid (show t + 1 ≤ R.length ∧ (R ++ [rt])[t + 1]? = some y ∧ Own (wr.setCell ⟨w1.heap.size, x, none⟩ (.bool true)) 4 1 (.slice (some ⟨w1.heap.size, 0, none⟩) cs.length cs.length) cs.length (marksI cs.length (R.take (t + 1))) ∧ Kept (fun b => b = w1.heap.size) w1 (wr.setCell ⟨w1.heap.size, x, none⟩ (.bool true)) from
        ⟨hlt, hxn, hset, hkk.setCell (fun _ => rfl) _⟩)
      have d1 : (wr.setCell ⟨w1.heap.size, x, none⟩ (.bool true)).cell? ⟨sb, 0, none⟩ = some (.slice (some ⟨g, off, none⟩) cs.length c) := cell_of ((heap_set_ne (p := ⟨w1.heap.size, x, none⟩) hne1 _).trans hk0) rfl
      have HLT := Lib.hid hlt
      clear hH ht hx ho hkk hcl hfz hk0 hog hxR hnt hset hgo hxn hm2 hlt
      go_wp2
      go_roundw
      case rel => exact ⟨t + 1, y, rfl, Q⟩
      case measure =>
        rw [HML.out, HML2.out]
        have := HLT.out
        omega
    · obtain rfl : t = R.length := by omega
      have hxr : x = rt := by simpa using hx.symm
      subst hxr
      rw [List.take_length] at ho m0
      have hyes : decide (x ∈ R) = true := by simpa using HRM.out
      rw [hyes] at m0
      have hme : marksI cs.length R = (List.range cs.length).map (fun k => Value.bool (decide (ρ k = x))) := by
        unfold marksI
        apply List.map_congr_left
        intro k hk
        have h1 := HMEM.out k
        have h2 := List.mem_range.1 hk
        congr 1
        rw [decide_eq_decide, h1]
        exact ⟨fun h => h.2, fun h => ⟨h2, h⟩⟩
      rw [hme] at ho
      have HB := Lib.hid ho
      have HKK := Lib.hid hkk
      have HBS := Lib.hid hkk.size
      clear hH ht hx ho hkk hcl hfz hk0 hog hlt hyes hme d0 e1 hne1 hne2 HML
      go_wp2
      obtain ⟨wB, rfl⟩ : ∃ x, x = wr := ⟨wr, rfl⟩
      go_loopw [10, 47] (fun lv i wr => ∃ k : Nat, k ≤ cs.length ∧ i = .int .i64 k ∧ Hid (Own wr 3 1 lv (clsOf k ρ x).length (cellsOf encI (clsOf k ρ x)) ∧ Kept (fun _ => False) wB wr ∧ ∀ b, lv.ownBlock = some b → wB.heap.size ≤ b)) (fun _ i _ => cs.length - (intOf i).toNat)
      case atStart => exact ⟨0, Nat.zero_le _, rfl, Lib.hid ⟨Own.nil _ _ _, Kept.refl _ _, by simp [Value.ownBlock]⟩⟩
      case round =>
        obtain ⟨k, hk, rfl, hH⟩ := hrel
        obtain ⟨ho, hkk, hnew⟩ := hH.out
        obtain ⟨la, lc, rfl, n1, n2, n3⟩ := ho.shape
        by_cases hlt : k < cs.length
        · obtain ⟨g', off', cap', hv', _, _, hcl, hfz, _⟩ := (HB.out.frame hkk (fun _ _ => id)).elt (by omega)
          simp only [Value.slice.injEq, Option.some.injEq, Addr.mk.injEq, true_and, and_true] at hv'
          obtain ⟨⟨rfl, rfl⟩, rfl⟩ := hv'
          have m0 : wr.cell? ⟨w1.heap.size, k, none⟩ = some (.bool (decide (ρ k = x))) := by
            have := hcl k (.bool (decide (ρ k = x))) (by simp [hlt])
            simpa using this
          have hi2 : (k : Int) < (cs.length : Int) := by omega
          have hstep := clsStepI (k := k) (a := x) ρ
          have hcle := clsLeI k ρ x
          generalize hY : clsOf k ρ x = Y at ho n1 n2 n3 hstep hcle hnew ⊢
          have HO2 := Lib.hid ho
          have HK2 := Lib.hid hkk
          have HN2 := Lib.hid hnew
          clear hH ho hkk hnew hcl hfz n3 hY
          by_cases hc : ρ k = x
          · have hd : decide (ρ k = x) = true := by simpa using hc
            rw [hd] at m0
            rw [if_pos hc] at hstep
            have HST := Lib.hid hstep
            have HT : Hid (Fits (Y.length + 1) 8) := Lib.hid (fits_of (by have := HN.out; omega) (by decide))
            clear hc hd hstep hcle
            go_wp2_with (first
              | (at_builtin; refine wpList_append slInt (v := .slice la Y.length lc) (vx := .slice (some ⟨wr.heap.size, 0, none⟩) 1 1) (news := [.int .i64 (k : Int)]) (m := 1) rfl _ _ rfl rfl rfl (HO2.out.alloc _) (Own.rd (Own.fresh (n := 1) (by rfl) (by decide))) (by simp [Value.oneCell']) HT.out ?_
                 intro v3 w3 hown3 hk3 hb3 _))
            have Q := Lib.hid (show Own w3 3 1 v3 (clsOf (k + 1) ρ x).length (cellsOf encI (clsOf (k + 1) ρ x)) ∧ Kept (fun _ => False) wB w3 ∧ ∀ b, v3.ownBlock = some b → wB.heap.size ≤ b from by
              rw [HST.out, cellsOf_append, List.length_append]
              refine ⟨hown3, (HK2.out.alloc _).trans' hk3 (fun i hi h => by have := HN2.out i h; omega), fun b h => ?_⟩
              rcases hb3 b h with h | h
              · exact HN2.out b h
              · have := HK2.out.size
                simp at h
                omega)
            clear hown3 hk3 hb3
            go_wp2
            go_roundw
            case rel => exact ⟨k + 1, by omega, by go_num, Q⟩
            case measure => simp [intOf]; omega
          · have hd : decide (ρ k = x) = false := by simpa using hc
            rw [hd] at m0
            rw [if_neg hc, List.append_nil] at hstep
            have Q := Lib.hid (show Own wr 3 1 (.slice la Y.length lc) (clsOf (k + 1) ρ x).length (cellsOf encI (clsOf (k + 1) ρ x)) ∧ Kept (fun _ => False) wB wr ∧ ∀ b, (Value.slice la Y.length lc).ownBlock = some b → wB.heap.size ≤ b from by
              rw [hstep]
              exact ⟨HO2.out, HK2.out, HN2.out⟩)
            clear hc hd hstep hcle
            go_wp2
            go_roundw
            case rel => exact ⟨k + 1, by omega, by go_num, Q⟩
            case measure => simp [intOf]; omega
        · obtain rfl : k = cs.length := by omega
          have HO2 := Lib.hid ho
          have HK2 := Lib.hid hkk
          have HN2 := Lib.hid hnew
          clear hH ho hkk hnew n3 hlt
          go_wp2
          go_ret2
          have hU := HU.out.frame (HKK.out.trans' HK2.out (fun _ _ h => h.elim)) (fun b hb h => by have := HU.out.lt hb; omega)
          have hK1 : Kept F w wr := (HK.out.trans' HKK.out (fun i hi h => by have := HK.out.size; omega)).trans' HK2.out (fun _ _ h => h.elim)
          refine ⟨_, rfl, hU, hK1, HO2.out, fun b hb => ?_⟩
          have h1 := HN2.out b hb
          have h2 := HBS.out
          have h3 := HK.out.size
          omega

/-- Class at whatever number. -/
theorem uniClassI (h : UniI w p F ρ vals) (i : Int) (hn : vals.length * 8 ≤ 140737488355328) :
    Calls Try.prog 14 #[p, .int .i64 i] w fun e w' => ((i < 0 ∨ (vals.length : Int) ≤ i) ∧ e = .returned (.tuple #[.slice none 0 0, .int .i64 2]) ∧ w = w') ∨
      ∃ (j : Nat) (v : Value), i = j ∧ j < vals.length ∧ e = .returned (.tuple #[v, .int .i64 0]) ∧ UniI w' p F ρ vals ∧ Kept F w w' ∧
      Own w' 3 1 v (clsOf vals.length ρ (ρ j)).length (cellsOf encI (clsOf vals.length ρ (ρ j))) ∧ ∀ b, v.ownBlock = some b → w.heap.size ≤ b := by
  by_cases hi : i < 0 ∨ (vals.length : Int) ≤ i
  · exact (uniClass0I h hi).mono fun e w' h => .inl ⟨hi, h.1, h.2⟩
  · obtain ⟨j, rfl⟩ := Int.eq_ofNat_of_zero_le (show 0 ≤ i by omega)
    have hj : j < vals.length := by omega
    exact (uniClass1I h hj hn).mono fun e w' ⟨v, h⟩ => .inr ⟨j, v, rfl, hj, h⟩

end

end Go.Proofs.Ytodklnfdmcadkaa
