/- 'Are the lists the same?' at one type of one cell (ints, texts). -/
import Derived.Test.YtllcklddfcclfaaCloneI
import Derived.Deep.QuietTactic
import Derived.BigQuiet
namespace Go.Proofs.Ytllcklddfcclfaa
open Go.RowKit
set_option linter.unusedVariables false
set_option linter.unusedSimpArgs false

theorem cellsOf_encI (xs : List (Int)) : cellsOf encI xs = xs.map (fun x => Value.int .i64 x) := by
  induction xs with
  | nil => rfl
  | cons x xs ih =>
    show (encI x).cells.toList ++ cellsOf encI xs = _
    rw [ih]; rfl

theorem rdCellI {w : World} {ad : Addr} {n c : Nat} {xs : List (Int)} (h : Rd w 1 (.slice (some ad) n c) n (cellsOf encI xs)) {k : Nat} (hk : k < xs.length) : w.cell? (ad.add k) = some ((fun x => Value.int .i64 x) xs[k]) := by
  obtain ⟨_, a, c', he, _, _, _, h4⟩ := h
  cases he
  refine h4 ad rfl k _ ?_
  rw [cellsOf_encI]
  simp [hk]

theorem take_eq_stepI {xs ys : List (Int)} {k : Nat} (h : xs.take k = ys.take k) (hx : k < xs.length) (hy : k < ys.length) (e : xs[k] = ys[k]) : xs.take (k + 1) = ys.take (k + 1) := by
  rw [List.take_succ_eq_append_getElem hx, List.take_succ_eq_append_getElem hy, h, e]

set_option maxHeartbeats 400000 in
theorem sameI (va vb : Value) (xs ys : List (Int)) (w : World) (hx : Rd w 1 va xs.length (cellsOf encI xs)) (hy : Rd w 1 vb ys.length (cellsOf encI ys)) :
    Calls Try.prog 12 #[va, vb] w fun e w' => e = .returned (.bool (decide (xs = ys))) ∧ Kept (fun _ => False) w w' := by
  obtain ⟨_, a, ca, rfl, ka1, ka2, ka3, _⟩ := id hx
  obtain ⟨_, b, cb, rfl, kb1, kb2, kb3, _⟩ := id hy
  unfold maxLen at ka2 kb2
  by_cases hl : xs.length = ys.length
  · have H := Lib.hid hl
    have hneq : ((xs.length : Int) != (ys.length : Int)) = false := by simp [hl]
    have KA := Lib.hid ka3
    have KB := Lib.hid kb3
    have HX := Lib.hid hx
    have HY := Lib.hid hy
    clear hl ka3 kb3 hx hy
    go_enter Try.func12, Try.ntmps12
    go_wp2
    go_loopw [5] (fun i wr => ∃ k : Nat, k ≤ xs.length ∧ i = .int .i64 k ∧ xs.take k = ys.take k ∧ Kept (fun _ => False) w wr) (fun i _ => xs.length - (intOf i).toNat)
    case atStart => exact ⟨0, Nat.zero_le _, rfl, rfl, Kept.refl _ _⟩
    case round =>
      obtain ⟨k, hk, rfl, heq, hkept⟩ := hrel
      have HQ := Lib.hid heq
      clear heq
      by_cases hlt : k < xs.length
      · cases a with
        | none => exact absurd (KA.out rfl).1 (by omega)
        | some ad =>
          cases b with
          | none => exact absurd (KB.out rfl).1 (by have := H.out; omega)
          | some bd =>
            have hly : k < ys.length := by have := H.out; omega
            have cx := rdCellI (HX.out.frame hkept (fun _ _ => id)) hlt
            have cy := rdCellI (HY.out.frame hkept (fun _ _ => id)) hly
            dsimp only at cx cy
            by_cases hxy : xs[k] = ys[k]
            · have HXY := Lib.hid hxy
              have hb : (xs[k] != ys[k]) = false := by simp [hxy]
              clear hxy
              go_wp2
              go_quiet (fail)
              go_wp2
              go_roundw
              case rel => exact ⟨k + 1, by omega, by go_num, take_eq_stepI HQ.out hlt hly HXY.out, hkept.drewN _⟩
              case measure => simp [intOf]; omega
            · have HD := Lib.hid (show decide (xs = ys) = false from decide_eq_false (fun e => hxy (by simp [e])))
              have hb : (xs[k] != ys[k]) = true := by simp [hxy]
              clear hxy
              go_wp2
              go_quiet (fail)
              go_wp2
              go_ret
              rw [HD.out]
              exact ⟨rfl, hkept.drewN _⟩
      · have HD := Lib.hid (show decide (xs = ys) = true from decide_eq_true (by
          have h1 := HQ.out
          rw [List.take_of_length_le (by omega), List.take_of_length_le (by have := H.out; omega)] at h1
          exact h1))
        go_wp2
        go_ret
        rw [HD.out]
        exact ⟨rfl, hkept⟩
  · have hneq : ((xs.length : Int) != (ys.length : Int)) = true := by rw [bne_iff_ne]; omega
    have HD := Lib.hid (show decide (xs = ys) = false from decide_eq_false (fun e => hl (by rw [e])))
    clear hl ka3 kb3 hx hy
    go_enter Try.func12, Try.ntmps12
    go_wp2
    go_ret
    rw [HD.out]
    exact ⟨rfl, Kept.refl _ _⟩

end Go.Proofs.Ytllcklddfcclfaa
