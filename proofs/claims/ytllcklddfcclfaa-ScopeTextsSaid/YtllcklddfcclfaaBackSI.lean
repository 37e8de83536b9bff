/- slices.Backward over frames: the iterator. -/
import Derived.Test.YtllcklddfcclfaaScopeSI
import Derived.RangeFuncNested
import Derived.RangeFuncBound
import Derived.RangeFuncCalls
import Derived.RangeFuncLeaves
import Derived.RangeFuncBox
import Derived.Shelf.Abstract
import Derived.Shelf.RegionOpen
import Derived.WalkKit
import Derived.OwnWalkIn
import Derived.TacticsInMore
import Derived.LoopNIn
import Derived.LoopIn
namespace Go.Proofs.Ytllcklddfcclfaa
open Go.RowKit Go.Shelf
set_option linter.unusedVariables false
set_option linter.unusedSimpArgs false

attribute [local go_sem] Oper.semAt_some

/-- What has come behind k rounds: the last k places, the last one first. -/
def backSI (len k : Nat) : List (Fin len) := (List.finRange len).reverse.take k

theorem backSI_succ {len k : Nat} (h : k < len) : backSI len (k + 1) = backSI len k ++ [⟨len - 1 - k, by omega⟩] := by
  unfold backSI
  rw [List.take_succ_eq_append_getElem (by simpa using h)]
  congr 2
  rw [List.getElem_reverse]
  simp

theorem backSI_length {len k : Nat} (h : k ≤ len) : (backSI len k).length = k := by simp [backSI, h]

set_option maxRecDepth 100000 in
set_option maxHeartbeats 2000000 in
theorem backRunSI (F : Fence) (n : Nat) (h53 : F.fn 56) (hro : F.round = none) (hn : 1 ≤ n) (l Bs n₀ b off len cap : Nat) (hb : b < n₀) (hBs : Bs < n₀) (hl : len ≤ 9223372036854775807) (mv kv : Fin len → Value) (J Jx : List (Fin len) → World → Prop)
    (hY : ∀ pre x W, J pre W → pre.length < len → YieldAt F (n - 1) Try.prog l #[.int .i64 (x.1 : Int), .agg #[mv x, kv x]] W fun e W' =>
      (e = .returned (.bool true) ∧ J (pre ++ [x]) W' ∧ Below n₀ W W') ∨ (e = .returned (.bool false) ∧ Jx (pre ++ [x]) W'))
    (W : World) (hcB : W.cell? ⟨Bs, 0, none⟩ = some (.slice (some ⟨b, off, none⟩) len cap)) (hc0 : ∀ j : Fin len, W.cell? ⟨b, off + j.1 * 2, none⟩ = some (mv j)) (hc1 : ∀ j : Fin len, W.cell? ⟨b, off + j.1 * 2 + 1, none⟩ = some (kv j)) (h0 : J [] W) :
    CallsIn F n Try.prog 56 #[.func (.yield l) #[] #[], .pointer (some ⟨Bs, 0, none⟩)] W fun e W' => (∃ v, e = .returned v) ∧
      ((∃ ys, ys = backSI len len ∧ J ys W') ∨ (∃ pre, (∃ k, k ≤ len ∧ pre = backSI len k) ∧ Jx pre W')) := by
  refine callsIn_of_wp Try.func56 rfl h53 ?_ hro
  simp only [Try.ntmps56, List.size_toArray, List.length_cons, List.length_nil, Nat.reduceAdd, Nat.reduceSub, Array.replicate_succ, Array.replicate_zero, List.push_toArray, List.append_toArray, List.nil_append, List.cons_append]
  gi_wp2
  gi_loopw [3] (fun i wr => ∃ k : Nat, k ≤ len ∧ i = .int .i64 ((len : Int) - 1 - k) ∧ J (backSI len k) wr ∧ Below n₀ W wr)
    (fun i _ => (intOf i + 1).toNat)
  case atStart => exact ⟨0, Nat.zero_le _, by simp, by simpa [backSI] using h0, Below.refl _ _⟩
  case round =>
    obtain ⟨k, hk, rfl, hJs, hnx⟩ := hrel
    have hcB' := (hnx.cell (p := ⟨Bs, 0, none⟩) hBs).trans hcB
    by_cases hlt : k < len
    · obtain ⟨i, hi⟩ : ∃ i, i = len - 1 - k := ⟨_, rfl⟩
      have hil : i < len := by omega
      have e1 : (len : Int) - 1 - k = i := by omega
      have hx0 := (hnx.cell (p := ⟨b, off + i * 2, none⟩) hb).trans (hc0 ⟨i, hil⟩)
      have hx1 := (hnx.cell (p := ⟨b, off + i * 2 + 1, none⟩) hb).trans (hc1 ⟨i, hil⟩)
      obtain ⟨fn, tmps, assign, body, hy, hR⟩ := hY _ ⟨i, hil⟩ wr hJs (by rw [backSI_length hk]; exact hlt)
      dsimp only at hy
      rw [e1]
      have HSU : Hid (backSI len (k + 1) = backSI len k ++ [⟨i, hil⟩]) := Lib.hid (by rw [backSI_succ hlt]; simp only [hi])
      have HI := Lib.hid hi
      have HE := Lib.hid e1
      clear hi e1
      gi_wp2
      refine hR.mono ?_
      rintro e W3 (⟨rfl, hJ3, hk3⟩ | ⟨rfl, hJx3⟩)
      · gi_wp2
        go_roundw
        case rel => exact ⟨k + 1, by omega, by have := HI.out; congr 1; omega, by rw [HSU.out]; exact hJ3, hnx.trans hk3⟩
        case measure => simp [intOf] <;> omega
      · gi_wp2
        refine bodyPost_ret (results_none rfl _ _ _) rfl ?_
        exact ⟨⟨_, rfl⟩, .inr ⟨_, ⟨k + 1, by omega, HSU.out.symm⟩, hJx3⟩⟩
    · obtain rfl : k = len := by omega
      have e1 : (k : Int) - 1 - k = -1 := by omega
      rw [e1]
      gi_wp2
      go_end0
      exact ⟨⟨_, rfl⟩, .inl ⟨_, rfl, hJs⟩⟩

end Go.Proofs.Ytllcklddfcclfaa
