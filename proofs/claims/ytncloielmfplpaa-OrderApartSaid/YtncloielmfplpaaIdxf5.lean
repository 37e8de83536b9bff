/- slices.IndexFunc over numbers, where one fits. -/
import Derived.Test.YtncloielmfplpaaWaits5
import Derived.Shelf.Abstract

namespace Go.Proofs.Ytncloielmfplpaa
open Go.RowKit Go.Shelf
set_option linter.unusedVariables false
set_option linter.unusedSimpArgs false

set_option maxRecDepth 100000 in
set_option maxHeartbeats 4000000 in
theorem indexFunc5 (g : Nat) (lb : Array Value) (eg : ∀ args w, (callFunc g args).run Try.prog w = .ok (.enter g args) w) {w : World} {gv : Value} {n : Nat} {gr : Nat → Nat} (p : Nat → Bool)
    (hg : Own w 3 1 gv n (cellsOf encN ((List.range n).map gr))) (hp : ∀ x, x < n → Calls Try.prog g (#[.int .i64 (gr x : Int)] ++ lb) w fun e w' => e = .returned (.bool (p (gr x))) ∧ w = w') (hex : ∃ i, i < n ∧ p (gr i) = true) :
    Calls Try.prog 35 #[gv, .func (.func g) #[] lb] w fun e w' => ∃ i : Nat, e = .returned (.int .i64 (i : Int)) ∧ i < n ∧ p (gr i) = true ∧ (∀ j, j < i → p (gr j) = false) ∧ w = w' := by
  obtain ⟨i0, hi0, hpi⟩ := hex
  obtain ⟨gb, off, cap, rfl, c1, c2, hcl, _, _⟩ := hg.elt (by omega)
  unfold maxLen at c2
  have hn : n ≤ 9223372036854775807 := by omega
  have hc : ∀ j, j < n → w.cell? ⟨gb, off + j, none⟩ = some (.int .i64 (gr j : Int)) := fun j hj => hcl j _ (by rw [cellsOf_encN]; simp [hj])
  have HPI := Lib.hid hpi
  clear hcl hg hpi
  go_enter Try.func35, Try.ntmps35
  go_wp2
  go_loopw [8] (fun i wr => ∃ k : Nat, k ≤ i0 ∧ i = .int .i64 k ∧ wr = w ∧ Hid (∀ j, j < k → p (gr j) = false)) (fun i _ => n - (intOf i).toNat)
  case atStart => exact ⟨0, Nat.zero_le _, rfl, rfl, Lib.hid (fun j hj => absurd hj (Nat.not_lt_zero _))⟩
  case round =>
    obtain ⟨k, hk, rfl, rfl, hA⟩ := hrel
    have hlt : (k : Int) < (n : Int) := by omega
    have hkn : k < n := by omega
    have hcell := hc k hkn
    have hcall := hp k hkn
    cases hq : p (gr k) with
    | true =>
      rw [hq] at hcall
      have HQ := Lib.hid hq
      have HC := Lib.hid hcall
      clear hc hp hcall hq
      go_wp2_with (go_at_fn g; refine HC.out.mono ?_; rintro e w' ⟨rfl, rfl⟩)
      go_ret
      exact ⟨k, rfl, hkn, HQ.out, hA.out, rfl⟩
    | false =>
      rw [hq] at hcall
      have hki : k ≠ i0 := by
        rintro rfl
        rw [HPI.out] at hq
        cases hq
      have HQ : Hid (∀ j, j < k + 1 → p (gr j) = false) := Lib.hid fun j hj => by
        rcases Nat.lt_or_ge j k with h1 | h1
        · exact hA.out j h1
        · obtain rfl : j = k := by omega
          exact hq
      have HC := Lib.hid hcall
      clear hc hp hcall hq hA
      go_wp2_with (go_at_fn g; refine HC.out.mono ?_; rintro e w' ⟨rfl, rfl⟩)
      go_roundw
      case rel => exact ⟨k + 1, by omega, by go_num, by trivial, HQ⟩
      case measure => simp [intOf]; omega

end Go.Proofs.Ytncloielmfplpaa
