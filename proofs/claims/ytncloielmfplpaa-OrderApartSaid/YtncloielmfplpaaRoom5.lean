/- Sizes. Heads and tails of readable slices. Roomy and Kept: a list with twenty marks behind it. -/
import Derived.Test.YtncloielmfplpaaFacts5
import Derived.Test.YtncloielmfplpaaSameI
import Derived.Test.YtncloielmfplpaaStkIs
import Derived.Deep.SlicePairs
import Derived.Test.YtncloielmfplpaaArgsI
import Derived.Test.YtncloielmfplpaaMakeIs
namespace Go.Proofs.Ytncloielmfplpaa
theorem sizeI (a : Int) : (encI a).cells.size = 1 := rfl
end Go.Proofs.Ytncloielmfplpaa

namespace Go.Proofs.Ytncloielmfplpaa
open Go.RowKit
set_option linter.unusedVariables false
set_option linter.unusedSimpArgs false

theorem Rd.head {w : World} {sz : Nat} {a : Option Addr} {n c : Nat} {xs : List Value} (h : Rd w sz (.slice a n c) n xs) {k : Nat} (hk : k ≤ n) : Rd w sz (.slice a k c) k (xs.take (k * sz)) := by
  obtain ⟨hl, a', c', hv, h1, h2, h3, h4⟩ := h
  simp only [Value.slice.injEq, true_and] at hv
  obtain ⟨rfl, rfl⟩ := hv
  have hkn : k * sz ≤ n * sz := Nat.mul_le_mul_right _ hk
  refine ⟨by rw [List.length_take, hl]; omega, a, c, rfl, by omega, h2, fun e => by have := h3 e; omega, fun ad had j u hu => ?_⟩
  rw [List.getElem?_take] at hu
  split at hu
  · exact h4 ad had j u hu
  · cases hu

theorem Rd.tailV {w : World} {sz : Nat} {a : Option Addr} {n c : Nat} {xs : List Value} (h : Rd w sz (.slice a n c) n xs) {k : Nat} (hk : k ≤ n) : Rd w sz (tailV a n c k sz) (n - k) (xs.drop (k * sz)) := by
  obtain ⟨hl, a', c', hv, h1, h2, h3, h4⟩ := h
  simp only [Value.slice.injEq, true_and] at hv
  obtain ⟨rfl, rfl⟩ := hv
  refine ⟨by rw [List.length_drop, hl, Nat.sub_mul], _, _, rfl, by omega, by omega, ?_, ?_⟩
  · intro e
    by_cases hck : c = k
    · omega
    · rw [if_neg hck] at e
      cases a with
      | none => have := h3 rfl; omega
      | some ad => cases e
  · intro ad had j u hu
    rw [List.getElem?_drop] at hu
    by_cases hck : c = k
    · have hlt := (List.getElem?_eq_some_iff.1 hu).1
      have : n * sz ≤ k * sz := Nat.mul_le_mul_right _ (by omega)
      omega
    · rw [if_neg hck] at had
      cases a with
      | none => cases had
      | some a0 =>
        simp only [Option.map_some, Option.some.injEq] at had
        subst had
        rw [Go.Deep.add_add]
        exact h4 a0 rfl _ u hu

end Go.Proofs.Ytncloielmfplpaa

namespace Go.Proofs.Ytncloielmfplpaa
open Go.RowKit
set_option linter.unusedVariables false
set_option linter.unusedSimpArgs false

/-- The first k of the marks. -/
def tail20 (k : Nat) : List Int := (List.range k).map fun i : Nat => -100 - (i : Int)

theorem tail20_length (k : Nat) : (tail20 k).length = k := by simp [tail20]
theorem tail20_succ (k : Nat) : tail20 (k + 1) = tail20 k ++ [-100 - (k : Int)] := by simp [tail20, List.range_succ]

set_option maxRecDepth 100000 in
set_option maxHeartbeats 1000000 in
theorem roomy (v : Value) (xs : List Int) (w : World) (hx : Rd w 1 v xs.length (cellsOf encI xs)) (hs : xs.length ≤ 1048576) :
    Calls Try.prog 12 #[v] w fun e w' => ∃ v', e = .returned v' ∧ Fresh w w' 3 1 v' (xs.length + 20) (cellsOf encI (xs ++ tail20 20)) := by
  obtain ⟨_, a, c, rfl, ka1, ka2, ka3, _⟩ := id hx
  obtain ⟨wm, hrun, hom, hkm, hsm⟩ := run_make_one slInt rfl w 0 (xs.length + 20) (Nat.zero_le _) (by omega) (by unfold maxLen; omega)
  have hmk := hrun 0 ((xs.length : Int) + 20) rfl (by simp)
  have HX := Lib.hid (hx.frame hkm (fun _ _ => id))
  have HOM := Lib.hid hom
  have HKM := Lib.hid hkm
  have HSM := Lib.hid hsm
  have HT : Hid (Fits (0 + xs.length) 8) := Lib.hid (fits_of (by omega) (by decide))
  unfold maxLen at ka2
  clear hx ka3 hrun hom hkm hsm
  go_enter Try.func12, Try.ntmps12
  go_wp2_with (at_builtin; refine wpList_append slInt (v := .slice (some ⟨w.heap.size, 0, none⟩) 0 (xs.length + 20)) (vx := .slice a xs.length c) (n := 0) (m := xs.length) (xs := []) (news := cellsOf encI xs) rfl _ _ rfl rfl rfl HOM.out HX.out (oneI xs) HT.out ?_
               intro v2 w2 hown2 hk2 hb2 _)
  rw [Nat.zero_add, List.nil_append] at hown2
  have hk02 : Kept (fun _ => False) w w2 := HKM.out.trans' hk2 (fun i hi h => by simp [Value.ownBlock] at h; omega)
  have hn2 : ∀ b, v2.ownBlock = some b → w.heap.size ≤ b := fun b hb => (hb2 b hb).elim (fun h => by simp [Value.ownBlock] at h; omega) (fun h => Nat.le_trans HKM.out.size h)
  have Q0 := Lib.hid (show Own w2 3 1 v2 (xs.length + 0) (cellsOf encI (xs ++ tail20 0)) ∧ Kept (fun _ => False) w w2 ∧ ∀ b, v2.ownBlock = some b → w.heap.size ≤ b from ⟨by simpa [tail20] using hown2, hk02, hn2⟩)
  clear hown2 hk2 hb2 hk02 hn2 HX HOM HKM HSM HT hmk
  go_loopw [3, 4] (fun fv i wr => ∃ k : Nat, k ≤ 20 ∧ i = .int .i64 k ∧ Hid (Own wr 3 1 fv (xs.length + k) (cellsOf encI (xs ++ tail20 k)) ∧ Kept (fun _ => False) w wr ∧ ∀ b, fv.ownBlock = some b → w.heap.size ≤ b)) (fun _ i _ => 20 - (intOf i).toNat)
  case atStart => exact ⟨0, by omega, rfl, Q0⟩
  case round =>
    obtain ⟨k, hk, rfl, hH⟩ := hrel
    obtain ⟨h1, h2, h3⟩ := hH.out
    obtain ⟨na, nc, rfl, n1, n2, n3⟩ := h1.shape
    by_cases hlt : k < 20
    · have H1 := Lib.hid h1
      have H2 := Lib.hid h2
      have H3 := Lib.hid h3
      have HT : Hid (Fits (xs.length + k + 1) 8) := Lib.hid (fits_of (by omega) (by decide))
      clear h1 h2 h3 hH n3
      go_wp2_with (at_builtin; refine wpList_append slInt (v := .slice na (xs.length + k) nc) (vx := .slice (some ⟨wr.heap.size, 0, none⟩) 1 1) (news := (encI (-100 - (k : Int))).cells.toList) (m := 1) rfl _ _ rfl rfl rfl (H1.out.alloc _) (Own.rd (Own.fresh (n := 1) (by rfl) (by decide))) (by simp [encI, Value.cells, Value.oneCell']) HT.out ?_; intro v3 w3 hown3 hk3 hb3 _)
      have q1 : Own w3 3 1 v3 (xs.length + (k + 1)) (cellsOf encI (xs ++ tail20 (k + 1))) := by
        rw [tail20_succ, ← List.append_assoc, cellsOf_append, cellsOf_one]
        exact hown3
      have q2 : Kept (fun _ => False) w w3 := (H2.out.alloc _).trans' hk3 (fun i hi h => by have := H3.out i h; omega)
      have q3 : ∀ b, v3.ownBlock = some b → w.heap.size ≤ b := fun b h => by
        rcases hb3 b h with h | h
        · exact H3.out b h
        · have := H2.out.size
          simp at h
          omega
      have Q := Lib.hid (And.intro q1 (And.intro q2 q3))
      clear q1 q2 q3 hown3 hk3 hb3
      go_roundw
      case rel => exact ⟨k + 1, by omega, by go_num, Q⟩
      case measure => simp [intOf]; omega
    · obtain rfl : k = 20 := by omega
      have H1 := Lib.hid h1
      have H2 := Lib.hid h2
      have H3 := Lib.hid h3
      clear h1 h2 h3 hH n3
      go_wp2
      go_ret
      exact ⟨_, rfl, H1.out, H2.out, H3.out⟩

set_option maxRecDepth 100000 in
set_option maxHeartbeats 1000000 in
theorem kept_any (vf v : Value) (xs : List Int) (w : World) (hf : Rd w 1 vf (xs.length + 20) (cellsOf encI (xs ++ tail20 20))) (hx : Rd w 1 v xs.length (cellsOf encI xs)) (hs : xs.length ≤ 1048576) :
    Calls Try.prog 18 #[vf, v] w fun e w' => e = .returned (.bool true) ∧ Kept (fun _ => False) w w' := by
  obtain ⟨_, a, c, rfl, ka1, ka2, ka3, _⟩ := id hx
  obtain ⟨_, fa, fc, rfl, kf1, kf2, kf3, _⟩ := id hf
  have hhd := fun w => run_slice_head slInt w fa (n := xs.length + 20) (c := fc) (k := xs.length) (by omega)
  have hh := hf.head (k := xs.length) (by omega)
  rw [cellsOf_take sizeI _ (by simp), List.take_left] at hh
  have HX := Lib.hid hx
  have HF := Lib.hid hf
  have HH := Lib.hid hh
  have KF := Lib.hid kf3
  have hne : (((xs.length + 20 : Nat) : Int) != (xs.length : Int) + 20) = false := by simp
  unfold maxLen at ka2 kf2
  clear hx hf hh ka3 kf3
  go_enter Try.func18, Try.ntmps18
  go_wp2_with fail
  refine (sameI _ _ xs xs w HH.out HX.out).mono ?_
  rintro e w1 ⟨rfl, k1⟩
  rw [decide_eq_true (rfl : xs = xs)]
  have K1 := Lib.hid k1
  clear k1
  go_wp2_with fail
  go_loop [5] (fun i => ∃ k : Nat, k ≤ 20 ∧ i = .int .i64 k) (fun i => 20 - (intOf i).toNat)
  case atStart => exact ⟨0, by omega, rfl⟩
  case round =>
    obtain ⟨k, hk, rfl⟩ := hrel
    by_cases hlt : k < 20
    · cases fa with
      | none => exact absurd (KF.out rfl).1 (by omega)
      | some ad =>
        have hF1 : Rd w1 1 (.slice (some ad) (xs ++ tail20 20).length fc) (xs ++ tail20 20).length (cellsOf encI (xs ++ tail20 20)) := by
          rw [List.length_append, tail20_length]
          exact HF.out.frame K1.out (fun _ _ => id)
        have cx := rdCellI hF1 (k := xs.length + k) (by rw [List.length_append, tail20_length]; omega)
        have hv : (xs ++ tail20 20)[xs.length + k]'(by rw [List.length_append, tail20_length]; omega) = -100 - (k : Int) := by
          simp [tail20]
        rw [hv] at cx
        dsimp only at cx
        have hw1 : IntKind.i64.wrap ((xs.length : Int) + (k : Int)) = (xs.length : Int) + (k : Int) := IntWalk.i64_in _ (by omega)
        have hn1 : (0 : Int) ≤ (xs.length : Int) + (k : Int) := by omega
        have hn2 : (xs.length : Int) + (k : Int) < ((xs.length + 20 : Nat) : Int) := by omega
        have hn3 : ((xs.length : Int) + (k : Int)).toNat = xs.length + k := by omega
        clear hF1 hv
        go_wp2
        go_round
        case rel => exact ⟨k + 1, by omega, by go_num⟩
        case measure => simp [intOf]; omega
    · obtain rfl : k = 20 := by omega
      go_wp2
      go_ret
      exact ⟨rfl, K1.out⟩

end Go.Proofs.Ytncloielmfplpaa
