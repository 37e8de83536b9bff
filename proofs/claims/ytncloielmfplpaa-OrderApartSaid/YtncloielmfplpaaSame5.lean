/- loiterlaw05.same: are lists of lists the same? -/
import Derived.Test.YtncloielmfplpaaNum5
import Derived.Test.YtncloielmfplpaaSameQI
namespace Go.Proofs.Ytncloielmfplpaa
open Go.RowKit
set_option linter.unusedVariables false
set_option linter.unusedSimpArgs false

theorem RdLs.frame {w w' : World} {gv : Value} {Ys : List (List Int)} (h : RdLs w gv Ys) (hk : Kept (fun _ => False) w w') : RdLs w' gv Ys := by
  obtain ⟨vs, h1, h2, h3⟩ := h
  exact ⟨vs, h1.frame hk (fun _ _ => id), h2, fun i hi hi' => (h3 i hi hi').frame hk (fun _ _ => id)⟩

set_option maxRecDepth 100000 in
set_option maxHeartbeats 1000000 in
theorem same5 {w : World} {va vb : Value} {Ys : List (List Int)} (ha : RdLs w va Ys) (hb : RdLs w vb Ys) :
    Calls Try.prog 16 #[va, vb] w fun e w' => e = .returned (.bool true) ∧ ∃ m, w' = w.drewN m := by
  obtain ⟨vs, h1, hl, h2⟩ := ha
  obtain ⟨us, k1, kl, k2⟩ := hb
  have HA := Lib.hid (And.intro h1 h2)
  have HB := Lib.hid (And.intro k1 k2)
  obtain ⟨a, c, rfl, r1, r2, r3⟩ := h1.2
  obtain ⟨b, d, rfl, s1, s2, s3⟩ := k1.2
  have R3 := Lib.hid r3
  have S3 := Lib.hid s3
  rw [hl] at r1
  rw [kl] at s1
  unfold maxLen at r2 s2
  have hne : ((Ys.length : Int) != (Ys.length : Int)) = false := by simp
  have HL := Lib.hid (And.intro hl kl)
  rw [hl, kl]
  clear h1 h2 k1 k2 r3 s3 hl kl
  go_enter Try.func16, Try.ntmps16
  go_wp2_with fail
  go_loopw [5] (fun x wr => ∃ i : Nat, i ≤ Ys.length ∧ x = .int .i64 i ∧ Hid (∃ m, wr = w.drewN m)) (fun x _ => Ys.length - (intOf x).toNat)
  case atStart => exact ⟨0, Nat.zero_le _, rfl, Lib.hid ⟨0, rfl⟩⟩
  case round =>
    obtain ⟨i, hi, rfl, HM⟩ := hrel
    have hK : Hid (Kept (fun _ => False) w wr) := Lib.hid (by obtain ⟨m, rfl⟩ := HM.out; exact (Kept.refl _ w).drewN m)
    by_cases hlt : i < Ys.length
    · have hii : (i : Int) < (Ys.length : Int) := by omega
      have hvl : i < vs.length := by have := HL.out.1; omega
      have hul : i < us.length := by have := HL.out.2; omega
      cases a with
      | none => exact absurd (R3.out.1 rfl).1 (by omega)
      | some ad =>
        cases b with
        | none => exact absurd (S3.out.1 rfl).1 (by omega)
        | some bd =>
          have c0 : wr.cell? (ad.add i) = some (vs[i]'hvl) := hK.out.cell (R3.out.2 ad rfl i _ (by simp [hvl])) id
          have c1 : wr.cell? (bd.add i) = some (us[i]'hul) := hK.out.cell (S3.out.2 bd rfl i _ (by simp [hul])) id
          have HS : Hid (∀ n, Calls Try.prog 17 #[vs[i]'hvl, us[i]'hul] (wr.drewN n) fun e w' => e = .returned (.bool true) ∧ ∃ m, w' = (wr.drewN n).drewN m) := Lib.hid fun n => by
            have hs := sameQI (vs[i]'hvl) (us[i]'hul) Ys[i] Ys[i] (wr.drewN n) ((HA.out.2 i hvl hlt).frame (hK.out.drewN n) (fun _ _ => id)) ((HB.out.2 i hul hlt).frame (hK.out.drewN n) (fun _ _ => id))
            rw [decide_eq_true rfl] at hs
            exact hs
          have HMN : Hid (∀ n, ∃ m, wr.drewN n = w.drewN m) := Lib.hid fun n => by obtain ⟨m, rfl⟩ := HM.out; exact ⟨m + n, World.drewN_drewN ..⟩
          generalize vs[i]'hvl = x at c0 HS
          generalize us[i]'hul = y at c1 HS
          clear hlt hvl hul
          go_wp2_with fail
          go_quiet (exact Calls.quiet_of (HS.out _))
          clear c0 c1 hK HM
          go_wp2
          go_roundw
          case rel => exact ⟨i + 1, by omega, by go_num, Lib.hid (HMN.out _)⟩
          case measure => simp [intOf]; omega
    · have hii : ¬ (i : Int) < (Ys.length : Int) := by omega
      clear hlt
      go_wp2
      go_ret
      exact ⟨rfl, HM.out⟩

end Go.Proofs.Ytncloielmfplpaa
