/- 'Are the lists the same?' at one type of one cell (ints, texts), as a call that turns nothing but draws. -/
import Derived.Test.YtncloielmfplpaaSameI
namespace Go.Proofs.Ytncloielmfplpaa
open Go.RowKit
set_option linter.unusedVariables false
set_option linter.unusedSimpArgs false

set_option maxHeartbeats 400000 in
theorem sameQI (va vb : Value) (xs ys : List (Int)) (w : World) (hx : Rd w 1 va xs.length (cellsOf encI xs)) (hy : Rd w 1 vb ys.length (cellsOf encI ys)) :
    Calls Try.prog 17 #[va, vb] w fun e w' => e = .returned (.bool (decide (xs = ys))) ∧ ∃ m, w' = w.drewN m := by
  obtain ⟨_, a, ca, rfl, ka1, ka2, ka3, _⟩ := id hx
  obtain ⟨_, b, cb, rfl, kb1, kb2, kb3, _⟩ := id hy
  unfold maxLen at ka2 kb2
  by_cases hl : xs.length = ys.length
  · have H := Lib.hid hl
    have hneq : ((xs.length : Int) != (ys.length : Int)) = false := by simp [hl]
    have KA := Lib.hid ka3
    have KB := Lib.hid kb3
    have HX := Lib.hid hx
    have HY := Lib.hid hy
    clear hl ka3 kb3 hx hy
    go_enter Try.func17, Try.ntmps17
    go_wp2
    go_loopw [5] (fun i wr => ∃ k : Nat, k ≤ xs.length ∧ i = .int .i64 k ∧ xs.take k = ys.take k ∧ Hid (∃ m, wr = w.drewN m)) (fun i _ => xs.length - (intOf i).toNat)
    case atStart => exact ⟨0, Nat.zero_le _, rfl, rfl, Lib.hid ⟨0, rfl⟩⟩
    case round =>
      obtain ⟨k, hk, rfl, heq, HM⟩ := hrel
      have hkept : Kept (fun _ => False) w wr := by obtain ⟨m, rfl⟩ := HM.out; exact (Kept.refl _ w).drewN m
      have HMN : Hid (∀ n, ∃ m, wr.drewN n = w.drewN m) := Lib.hid fun n => by obtain ⟨m, rfl⟩ := HM.out; exact ⟨m + n, World.drewN_drewN ..⟩
      have HQ := Lib.hid heq
      clear heq
      by_cases hlt : k < xs.length
      · cases a with
        | none => exact absurd (KA.out rfl).1 (by omega)
        | some ad =>
          cases b with
          | none => exact absurd (KB.out rfl).1 (by have := H.out; omega)
          | some bd =>
            have hly : k < ys.length := by have := H.out; omega
            have cx := rdCellI (HX.out.frame hkept (fun _ _ => id)) hlt
            have cy := rdCellI (HY.out.frame hkept (fun _ _ => id)) hly
            dsimp only at cx cy
            by_cases hxy : xs[k] = ys[k]
            · have HXY := Lib.hid hxy
              have hb : (xs[k] != ys[k]) = false := by simp [hxy]
              clear hxy
              go_wp2
              go_quiet (fail)
              go_wp2
              go_roundw
              case rel => exact ⟨k + 1, by omega, by go_num, take_eq_stepI HQ.out hlt hly HXY.out, Lib.hid (HMN.out _)⟩
              case measure => simp [intOf]; omega
            · have HD := Lib.hid (show decide (xs = ys) = false from decide_eq_false (fun e => hxy (by simp [e])))
              have hb : (xs[k] != ys[k]) = true := by simp [hxy]
              clear hxy
              go_wp2
              go_quiet (fail)
              go_wp2
              go_ret
              rw [HD.out]
              exact ⟨rfl, HMN.out _⟩
      · have HD := Lib.hid (show decide (xs = ys) = true from decide_eq_true (by
          have h1 := HQ.out
          rw [List.take_of_length_le (by omega), List.take_of_length_le (by have := H.out; omega)] at h1
          exact h1))
        go_wp2
        go_ret
        rw [HD.out]
        exact ⟨rfl, HM.out⟩
  · have hneq : ((xs.length : Int) != (ys.length : Int)) = true := by rw [bne_iff_ne]; omega
    have HD := Lib.hid (show decide (xs = ys) = false from decide_eq_false (fun e => hl (by rw [e])))
    clear hl ka3 kb3 hx hy
    go_enter Try.func17, Try.ntmps17
    go_wp2
    go_ret
    rw [HD.out]
    exact ⟨rfl, 0, rfl⟩

end Go.Proofs.Ytncloielmfplpaa
