/- The index's At at one type of one cell. -/
import Derived.Test.YtibenffndoknpaaSameS
namespace Go.Proofs.Ytibenffndoknpaa
open Go.RowKit
set_option linter.unusedVariables false
set_option linter.unusedSimpArgs false

section
variable {p : Value} {F : Nat → Prop} {ks : List (List UInt8)} {w : World}

theorem idxAtS_bad (h : IdxS w p F ks) (n : Int) (hn : n < 0 ∨ (ks.length : Int) ≤ n) :
    Calls Try.prog 30 #[p, .int .i64 n] w fun e w' => e = .returned (.tuple #[.string ⟨#[]⟩, .int .i64 2]) ∧ w = w' := by
  obtain ⟨ib, bm, v, rfl, h1, hm, hown, hne, hv1, hv2, hnd, hF⟩ := h
  obtain ⟨a, c, rfl, k1, k2, _⟩ := hown.shape
  have c1 : w.cell? ⟨ib, 1, none⟩ = some (.slice a ks.length c) := cell_of h1 rfl
  clear hm hown hF hnd hv1 hv2 h1
  by_cases h0 : n < 0
  · go_enter Try.func30, Try.ntmps30
    go_wp2
    go_ret2
    exact ⟨rfl, rfl⟩
  · have h2 : (ks.length : Int) ≤ n := by omega
    go_enter Try.func30, Try.ntmps30
    go_wp2
    go_ret2
    exact ⟨rfl, rfl⟩

theorem idxAtS_ok (h : IdxS w p F ks) (n : Int) (h0 : 0 ≤ n) (h2 : n < (ks.length : Int)) :
    Calls Try.prog 30 #[p, .int .i64 n] w fun e w' => ∃ k, ks[n.toNat]? = some k ∧ e = .returned (.tuple #[encS k, .int .i64 0]) ∧ w = w' := by
  obtain ⟨j, rfl⟩ := Int.eq_ofNat_of_zero_le h0
  obtain ⟨ib, bm, v, rfl, h1, hm, hown, hne, hv1, hv2, hnd, hF⟩ := h
  obtain ⟨a, c, rfl, k1, k2, k4⟩ := hown.shape
  have hj : j < ks.length := by omega
  have c1 : w.cell? ⟨ib, 1, none⟩ = some (.slice a ks.length c) := cell_of h1 rfl
  unfold maxLen at k2
  cases a with
  | none => exact absurd (k4 rfl).1 (by omega)
  | some ad =>
    have cx := rdCellS hown.rd hj
    dsimp only at cx
    have HJ := Lib.hid (show ks[(j : Int).toNat]? = some ks[j] by simp [hj])
    clear hm hown hF hnd hv1 hv2 h1 k4
    refine Calls.mono (R := fun e w' => e = .returned (.tuple #[encS ks[j], .int .i64 0]) ∧ w = w') ?_ (fun e w' ⟨h1, h2⟩ => ⟨_, HJ.out, h1, h2⟩)
    unfold encS
    go_enter Try.func30, Try.ntmps30
    go_wp2
    go_ret2
    exact ⟨rfl, rfl⟩

end

end Go.Proofs.Ytibenffndoknpaa
