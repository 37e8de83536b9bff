/- 'Are the lists of tokens the same?' -/
import Derived.Test.YthkkpnlgjkdneaaTokE
import Derived.Test.YthkkpnlgjkdneaaIdxIs
import Derived.Deep.SlicePairs
import Derived.Deep.QuietTactic
import Derived.BigQuiet
namespace Go.Proofs.Ythkkpnlgjkdneaa
open Go.RowKit
set_option linter.unusedVariables false
set_option linter.unusedSimpArgs false

theorem cellsOf_encT_get (xs : List Tok) {k j : Nat} (hk : k < xs.length) (hj : j < 4) : (cellsOf encT xs)[k * 4 + j]? = (encT xs[k]).cells.toList[j]? := by
  induction xs generalizing k with
  | nil => simp at hk
  | cons x xs ih =>
    show ((encT x).cells.toList ++ cellsOf encT xs)[k * 4 + j]? = _
    have hl : (encT x).cells.toList.length = 4 := rfl
    cases k with
    | zero => rw [List.getElem?_append_left (by omega)]; simp
    | succ k =>
      rw [List.getElem?_append_right (by omega), hl, show (k + 1) * 4 + j - 4 = k * 4 + j by omega]
      exact ih (by simpa using hk)

/-- The four cells of a token, at the addresses that a load of the whole token uses. -/
theorem rdCellT {w : World} {ad : Addr} {n c : Nat} {xs : List Tok} (h : Rd w 4 (.slice (some ad) n c) n (cellsOf encT xs)) {k : Nat} (hk : k < xs.length) :
    w.cell? (ad.add (k * 4)) = some (.int .i64 xs[k].1) ∧ w.cell? ⟨(ad.add (k * 4)).block, (ad.add (k * 4)).off + 1, none⟩ = some (.string ⟨xs[k].2.1.toArray⟩) ∧
      w.cell? ⟨(ad.add (k * 4)).block, (ad.add (k * 4)).off + 2, none⟩ = some (.int .i64 xs[k].2.2.1) ∧ w.cell? ⟨(ad.add (k * 4)).block, (ad.add (k * 4)).off + 3, none⟩ = some (.int .i64 xs[k].2.2.2) := by
  obtain ⟨_, a, c', he, _, _, _, h4⟩ := h
  cases he
  have one : ∀ j u, j < 4 → (encT xs[k]).cells.toList[j]? = some u → w.cell? (ad.add (k * 4 + j)) = some u := fun j u hj hu => h4 ad rfl _ u (by rw [cellsOf_encT_get xs hk hj]; exact hu)
  have two : ∀ j u, j < 4 → j ≠ 0 → (encT xs[k]).cells.toList[j]? = some u → w.cell? ⟨(ad.add (k * 4)).block, (ad.add (k * 4)).off + j, none⟩ = some u := fun j u hj h0 hu => by
    have := one j u hj hu
    rw [← Go.Deep.add_add, show (ad.add (k * 4)).add j = ⟨(ad.add (k * 4)).block, (ad.add (k * 4)).off + j, none⟩ by rw [Addr.add, if_neg h0]] at this
    exact this
  exact ⟨one 0 _ (by omega) rfl, two 1 _ (by omega) (by omega) rfl, two 2 _ (by omega) (by omega) rfl, two 3 _ (by omega) (by omega) rfl⟩

theorem take_eq_stepP {xs ys : List Tok} {k : Nat} (h : xs.take k = ys.take k) (hx : k < xs.length) (hy : k < ys.length) (e : xs[k] = ys[k]) : xs.take (k + 1) = ys.take (k + 1) := by
  rw [List.take_succ_eq_append_getElem hx, List.take_succ_eq_append_getElem hy, h, e]

set_option maxRecDepth 100000 in
set_option maxHeartbeats 1000000 in
theorem sameP (va vb : Value) (xs ys : List Tok) (w : World) (hx : Rd w 4 va xs.length (cellsOf encT xs)) (hy : Rd w 4 vb ys.length (cellsOf encT ys)) :
    Calls Try.prog 49 #[va, vb] w fun e w' => e = .returned (.bool (decide (xs = ys))) ∧ Kept (fun _ => False) w w' := by
  obtain ⟨_, a, ca, rfl, ka1, ka2, ka3, _⟩ := id hx
  obtain ⟨_, b, cb, rfl, kb1, kb2, kb3, _⟩ := id hy
  unfold maxLen at ka2 kb2
  by_cases hl : xs.length = ys.length
  · have H := Lib.hid hl
    have hneq : ((xs.length : Int) != (ys.length : Int)) = false := by simp [hl]
    have KA := Lib.hid ka3
    have KB := Lib.hid kb3
    have HX := Lib.hid hx
    have HY := Lib.hid hy
    clear hl ka3 kb3 hx hy
    go_enter Try.func49, Try.ntmps49
    go_wp2
    go_loopw [5] (fun i wr => ∃ k : Nat, k ≤ xs.length ∧ i = .int .i64 k ∧ Hid (xs.take k = ys.take k) ∧ Kept (fun _ => False) w wr) (fun i _ => xs.length - (intOf i).toNat)
    case atStart => exact ⟨0, Nat.zero_le _, rfl, Lib.hid rfl, Kept.refl _ _⟩
    case round =>
      obtain ⟨k, hk, rfl, heq, hkept⟩ := hrel
      by_cases hlt : k < xs.length
      · cases a with
        | none => exact absurd (KA.out rfl).1 (by omega)
        | some ad =>
          cases b with
          | none => exact absurd (KB.out rfl).1 (by have := H.out; omega)
          | some bd =>
            have hly : k < ys.length := by have := H.out; omega
            obtain ⟨x0, x1, x2, x3⟩ := rdCellT (HX.out.frame hkept (fun _ _ => id)) hlt
            obtain ⟨y0, y1, y2, y3⟩ := rdCellT (HY.out.frame hkept (fun _ _ => id)) hly
            have hcmp := fun wx => run_neq_tok wx xs[k] ys[k]
            have HXY : Hid (xs[k] = ys[k] ∨ xs[k] ≠ ys[k]) := Lib.hid (Classical.em _)
            unfold encT at hcmp
            generalize hxk : xs[k] = x at x0 x1 x2 x3 hcmp HXY
            generalize hyk : ys[k] = y at y0 y1 y2 y3 hcmp HXY
            have HXK := Lib.hid hxk
            have HYK := Lib.hid hyk
            obtain ⟨p0, p1, p2, p3⟩ := x
            obtain ⟨q0, q1, q2, q3⟩ := y
            dsimp only at x0 x1 x2 x3 y0 y1 y2 y3 hcmp
            clear hxk hyk
            rcases HXY.out with he | he
            · have HE := Lib.hid (show xs[k] = ys[k] by rw [HXK.out, HYK.out, he])
              simp only [he, decide_true, Bool.not_true] at hcmp
              clear HXY he
              go_wp2
              go_quiet (fail)
              go_wp2
              go_roundw
              case rel => exact ⟨k + 1, by omega, by go_num, Lib.hid (take_eq_stepP heq.out hlt hly HE.out), hkept.drewN _⟩
              case measure => simp [intOf]; omega
            · have HD := Lib.hid (show decide (xs = ys) = false from decide_eq_false (fun e => he (by rw [← HXK.out, ← HYK.out]; simp [e])))
              simp only [he, decide_false, Bool.not_false] at hcmp
              clear HXY he
              go_wp2
              go_quiet (fail)
              go_wp2
              go_ret
              rw [HD.out]
              exact ⟨rfl, hkept.drewN _⟩
      · have HD := Lib.hid (show decide (xs = ys) = true from decide_eq_true (by
          have h1 := heq.out
          rw [List.take_of_length_le (by omega), List.take_of_length_le (by have := H.out; omega)] at h1
          exact h1))
        go_wp2
        go_ret
        rw [HD.out]
        exact ⟨rfl, hkept⟩
  · have hneq : ((xs.length : Int) != (ys.length : Int)) = true := by rw [bne_iff_ne]; omega
    have HD := Lib.hid (show decide (xs = ys) = false from decide_eq_false (fun e => hl (by rw [e])))
    clear hl ka3 kb3 hx hy
    go_enter Try.func49, Try.ntmps49
    go_wp2
    go_ret
    rw [HD.out]
    exact ⟨rfl, Kept.refl _ _⟩

end Go.Proofs.Ythkkpnlgjkdneaa
