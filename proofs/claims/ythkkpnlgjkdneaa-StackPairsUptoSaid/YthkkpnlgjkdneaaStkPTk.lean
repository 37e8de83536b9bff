/- The stack's Peek and Put for tokens. -/
import Derived.Test.YthkkpnlgjkdneaaStkTk
import Derived.Test.YthkkpnlgjkdneaaSameP
import Derived.StillTailTactics
import Derived.IntWalk
namespace Go.Proofs.Ythkkpnlgjkdneaa
open Go.RowKit
set_option linter.unusedVariables false
set_option linter.unusedSimpArgs false

section
variable {p : Value} {F : Nat → Prop} {limit : Nat} {xs : List Tok} {w : World}

set_option maxRecDepth 100000 in
set_option maxHeartbeats 1000000 in
theorem stkPeekT (h : StkT w p F limit xs) (n : Int) :
    Calls Try.prog 33 #[p, .int .i64 n] w fun e w' => ((n < 0 ∨ (xs.length : Int) ≤ n) ∧ e = .returned (.tuple #[.agg #[.int .i64 0, .string ⟨#[]⟩, .int .i64 0, .int .i64 0], .int .i64 2]) ∧ Kept (fun _ => False) w w') ∨
      ∃ (j : Nat) (hj : j < xs.length), (xs.length : Int) = j + 1 + n ∧ e = .returned (.tuple #[encT xs[j], .int .i64 0]) ∧ Kept (fun _ => False) w w' := by
  obtain ⟨o, ho⟩ : ∃ o, o = Obj.cells #[.int .i64 0, .string ⟨#[]⟩, .int .i64 0, .int .i64 0] 56 := ⟨_, rfl⟩
  have hk0 := (Kept.refl (fun _ => False) w).alloc o
  have hw := h.frame hk0 (fun _ _ => id)
  have hp := stkPlaceT hw n
  obtain ⟨sb, v, rfl, h1, hown, hv1, hl, hF⟩ := hw
  obtain ⟨a, c, rfl, a1, a2, a3⟩ := hown.shape
  have c1 : (w.alloc o).cell? ⟨sb, 1, none⟩ = some (.slice a xs.length c) := cell_of h1 rfl
  rw [ho] at c1 hp hown hk0
  have HP := Lib.hid hp
  have HO := Lib.hid hown.rd
  have A3 := Lib.hid a3
  have HK0 := Lib.hid hk0
  unfold maxLen at a2
  clear hp h1 hown hv1 hF a3 hl h hk0 ho
  go_enter Try.func33, Try.ntmps33
  go_wp2_with fail
  refine HP.out.mono ?_
  rintro e w' (⟨hn, rfl, rfl⟩ | ⟨j, hj, hjn, rfl, rfl⟩)
  · have HN := Lib.hid hn
    have HK1 := Lib.hid (HK0.out.alloc (Obj.cells #[.int .i64 0, .string ⟨#[]⟩, .int .i64 0, .int .i64 0] 56))
    clear hn
    go_wp2
    refine bodyPost_ret (v := .tuple #[.agg #[.int .i64 0, .string ⟨#[]⟩, .int .i64 0, .int .i64 0], .int .i64 2]) ?_ rfl (.inl ⟨HN.out, rfl, HK1.out⟩)
    simp [results, Try.results33, go_sem]
  · cases a with
    | none => exact absurd (A3.out rfl).1 (by omega)
    | some ad =>
      obtain ⟨x0, x1, x2, x3⟩ := rdCellT HO.out hj
      have HJ := Lib.hid hj
      have HJN := Lib.hid hjn
      generalize hx : xs[j] = x at x0 x1 x2 x3
      obtain ⟨y0, y1, y2, y3⟩ := x
      have HX := Lib.hid hx
      dsimp only at x0 x1 x2 x3
      have HKP := Lib.hid ((Kept.refl (fun _ => False) w).alloc (.cells #[.int .i64 y0, .string ⟨y1.toArray⟩, .int .i64 y2, .int .i64 y3] 56))
      clear hjn hx
      go_wp2
      refine bodyPost_ret (v := .tuple #[.agg #[.int .i64 y0, .string ⟨y1.toArray⟩, .int .i64 y2, .int .i64 y3], .int .i64 0]) ?_ rfl (.inr ⟨j, HJ.out, HJN.out, congrArg (fun t => Ending.returned (.tuple #[encT t, .int .i64 0])) HX.out.symm, HKP.out⟩)
      simp [results, Try.results33, go_sem]

theorem cellsOf_setT (xs : List Tok) (j : Nat) (x : Tok) (hj : j < xs.length) : ((((cellsOf encT xs).set (j * 4) (.int .i64 x.1)).set (j * 4 + 1) (.string ⟨x.2.1.toArray⟩)).set (j * 4 + 2) (.int .i64 x.2.2.1)).set (j * 4 + 3) (.int .i64 x.2.2.2) = cellsOf encT (xs.set j x) := by
  induction xs generalizing j with
  | nil => simp at hj
  | cons y ys ih =>
    have e : cellsOf encT (y :: ys) = .int .i64 y.1 :: .string ⟨y.2.1.toArray⟩ :: .int .i64 y.2.2.1 :: .int .i64 y.2.2.2 :: cellsOf encT ys := rfl
    cases j with
    | zero =>
      rw [e]
      rfl
    | succ j =>
      have := ih j (by simpa using hj)
      rw [List.set_cons_succ, show cellsOf encT (y :: ys.set j x) = .int .i64 y.1 :: .string ⟨y.2.1.toArray⟩ :: .int .i64 y.2.2.1 :: .int .i64 y.2.2.2 :: cellsOf encT (ys.set j x) from rfl, ← this, e, show (j + 1) * 4 = j * 4 + 1 + 1 + 1 + 1 by omega]
      rfl

set_option maxRecDepth 100000 in
set_option maxHeartbeats 1000000 in
theorem stkPutT (h : StkT w p F limit xs) (n : Int) (x : Tok) :
    Calls Try.prog 51 #[p, .int .i64 n, encT x] w fun e w' => ((n < 0 ∨ (xs.length : Int) ≤ n) ∧ e = .returned (.int .i64 2) ∧ Kept (fun _ => False) w w') ∨
      ∃ (j : Nat), j < xs.length ∧ (xs.length : Int) = j + 1 + n ∧ e = .returned (.int .i64 0) ∧ StkT w' p F limit (xs.set j x) ∧ Kept F w w' := by
  obtain ⟨y0, y1, y2, y3⟩ := x
  obtain ⟨wa, hwa⟩ : ∃ wa, wa = w.alloc (.cells #[.int .i64 y0, .string ⟨y1.toArray⟩, .int .i64 y2, .int .i64 y3] 56) := ⟨_, rfl⟩
  have hk0 : Kept (fun _ => False) w wa := by rw [hwa]; exact (Kept.refl (fun _ => False) w).alloc _
  have hw := h.frame hk0 (fun _ _ => id)
  have hp := stkPlaceT hw n
  obtain ⟨sb, v, rfl, h1, hown, hv1, hl, hF⟩ := hw
  obtain ⟨a, c, rfl, a1, a2, a3⟩ := hown.shape
  have c1 : wa.cell? ⟨sb, 1, none⟩ = some (.slice a xs.length c) := cell_of h1 rfl
  have hb := heap_alloc_new w (.cells #[.int .i64 y0, .string ⟨y1.toArray⟩, .int .i64 y2, .int .i64 y3] 56)
  rw [← hwa] at hb
  have b0 : wa.cell? ⟨w.heap.size, 0, none⟩ = some (.int .i64 y0) := cell_of hb rfl
  have b1 : wa.cell? ⟨w.heap.size, 1, none⟩ = some (.string ⟨y1.toArray⟩) := cell_of hb rfl
  have b2 : wa.cell? ⟨w.heap.size, 2, none⟩ = some (.int .i64 y2) := cell_of hb rfl
  have b3 : wa.cell? ⟨w.heap.size, 3, none⟩ = some (.int .i64 y3) := cell_of hb rfl
  have HP := Lib.hid hp
  have H1 := Lib.hid h1
  have HO := Lib.hid hown
  have HV := Lib.hid hv1
  have HF := Lib.hid hF
  have HL := Lib.hid hl
  have HK0 := Lib.hid hk0
  have HWA := Lib.hid hwa
  unfold maxLen at a2
  clear hp h1 hown hv1 hF a3 hl h hk0 hb hwa
  unfold encT
  go_enter Try.func51, Try.ntmps51
  go_wp2_with fail
  rw [← HWA.out]
  refine HP.out.mono ?_
  rintro e w' (⟨hn, rfl, rfl⟩ | ⟨j, hj, hjn, rfl, rfl⟩)
  · have HN := Lib.hid hn
    clear hn
    go_wp2
    go_ret
    exact .inl ⟨HN.out, rfl, HK0.out⟩
  · obtain ⟨g, off, cap, hv, _, _, hcl, hfz, hg⟩ := HO.out.elt (by omega)
    simp only [Value.slice.injEq, true_and] at hv
    obtain ⟨rfl, rfl⟩ := hv
    have fx0 : wa.frozen? ⟨g, off + j * 4, none⟩ = false := hfz _
    have fx1 : wa.frozen? ⟨g, off + j * 4 + 1, none⟩ = false := hfz _
    have fx2 : wa.frozen? ⟨g, off + j * 4 + 2, none⟩ = false := hfz _
    have fx3 : wa.frozen? ⟨g, off + j * 4 + 3, none⟩ = false := hfz _
    have cx0 : wa.cell? ⟨g, off + j * 4, none⟩ = some (.int .i64 xs[j].1) := hcl (j * 4) _ (by have := cellsOf_encT_get xs hj (j := 0) (by omega); exact this)
    have cx1 : wa.cell? ⟨g, off + j * 4 + 1, none⟩ = some (.string ⟨xs[j].2.1.toArray⟩) := hcl (j * 4 + 1) _ (by have := cellsOf_encT_get xs hj (j := 1) (by omega); exact this)
    have cx2 : wa.cell? ⟨g, off + j * 4 + 2, none⟩ = some (.int .i64 xs[j].2.2.1) := hcl (j * 4 + 2) _ (by have := cellsOf_encT_get xs hj (j := 2) (by omega); exact this)
    have cx3 : wa.cell? ⟨g, off + j * 4 + 3, none⟩ = some (.int .i64 xs[j].2.2.2) := hcl (j * 4 + 3) _ (by have := cellsOf_encT_get xs hj (j := 3) (by omega); exact this)
    generalize xs[j] = x' at cx0 cx1 cx2 cx3
    have HJ := Lib.hid hj
    have HJN := Lib.hid hjn
    clear hjn hcl hfz
    go_wp2_with fail
    go_still_tail 7, (by kernel_rfl)
    change wpList _ _ _ _ _ wa.drew
    have D1 : Hid (wa.drew.heap[sb]? = some (.cells #[.int .i64 limit, .slice (some ⟨g, off, none⟩) xs.length c] 87 (0, 0))) := Lib.hid H1.out
    have DO : Hid (Own wa.drew 56 4 (.slice (some ⟨g, off, none⟩) xs.length c) xs.length (cellsOf encT xs)) := Lib.hid HO.out
    have DK : Hid (Kept (fun _ => False) w wa.drew) := Lib.hid HK0.out.drew
    have e0 : wa.drew.cell? ⟨g, off + j * 4, none⟩ = _ := cx0
    have e1 : wa.drew.cell? ⟨g, off + j * 4 + 1, none⟩ = _ := cx1
    have e2 : wa.drew.cell? ⟨g, off + j * 4 + 2, none⟩ = _ := cx2
    have e3 : wa.drew.cell? ⟨g, off + j * 4 + 3, none⟩ = _ := cx3
    have z0 : wa.drew.frozen? ⟨g, off + j * 4, none⟩ = false := fx0
    have z1 : wa.drew.frozen? ⟨g, off + j * 4 + 1, none⟩ = false := fx1
    have z2 : wa.drew.frozen? ⟨g, off + j * 4 + 2, none⟩ = false := fx2
    have z3 : wa.drew.frozen? ⟨g, off + j * 4 + 3, none⟩ = false := fx3
    clear cx0 cx1 cx2 cx3 fx0 fx1 fx2 fx3 b0 b1 b2 b3 c1 H1 HO HK0 HP HWA hg
    generalize wa.drew = wd at D1 DO DK e0 e1 e2 e3 z0 z1 z2 z3 ⊢
    go_wp2
    go_ret
    have hFe : ∀ b, F b ↔ (b = sb ∨ some g = some b) := fun b => by rw [HF.out b]; simp [Value.ownBlock]
    have hgs : sb ≠ g := fun e => HV.out (by simp [Value.ownBlock, e])
    have hj4 : j * 4 + 4 ≤ xs.length * 4 := by have := HJ.out; omega
    have ho := (((DO.out.setAt (j := j * 4) (by omega) (.int .i64 y0)).setAt (j := j * 4 + 1) (by omega) (.string ⟨y1.toArray⟩)).setAt (j := j * 4 + 2) (by omega) (.int .i64 y2)).setAt (j := j * 4 + 3) (by omega) (.int .i64 y3)
    have hset := cellsOf_setT xs j (y0, y1, y2, y3) HJ.out
    dsimp only at hset
    rw [hset] at ho
    have hk : Kept F wd ((((wd.setCell ⟨g, off + j * 4, none⟩ (.int .i64 y0)).setCell ⟨g, off + (j * 4 + 1), none⟩ (.string ⟨y1.toArray⟩)).setCell ⟨g, off + (j * 4 + 2), none⟩ (.int .i64 y2)).setCell ⟨g, off + (j * 4 + 3), none⟩ (.int .i64 y3)) :=
      ((((Kept.refl _ wd).setCell (fun _ => (hFe g).2 (.inr rfl)) _).setCell (fun _ => (hFe g).2 (.inr rfl)) _).setCell (fun _ => (hFe g).2 (.inr rfl)) _).setCell (fun _ => (hFe g).2 (.inr rfl)) _
    have hb : ((((wd.setCell ⟨g, off + j * 4, none⟩ (.int .i64 y0)).setCell ⟨g, off + (j * 4 + 1), none⟩ (.string ⟨y1.toArray⟩)).setCell ⟨g, off + (j * 4 + 2), none⟩ (.int .i64 y2)).setCell ⟨g, off + (j * 4 + 3), none⟩ (.int .i64 y3)).heap[sb]? = _ :=
      ((heap_set_ne (p := ⟨g, off + (j * 4 + 3), none⟩) hgs _).trans ((heap_set_ne (p := ⟨g, off + (j * 4 + 2), none⟩) hgs _).trans ((heap_set_ne (p := ⟨g, off + (j * 4 + 1), none⟩) hgs _).trans (heap_set_ne (p := ⟨g, off + j * 4, none⟩) hgs _)))).trans D1.out
    refine .inr ⟨j, HJ.out, HJN.out, rfl, ⟨sb, _, rfl, hb, by rw [List.length_set]; exact ho, HV.out, ⟨HL.out.1, by rw [List.length_set]; exact HL.out.2⟩, HF.out⟩, (DK.out.mono (fun _ _ h => h.elim)).trans hk⟩

end

end Go.Proofs.Ythkkpnlgjkdneaa
