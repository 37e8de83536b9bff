/- loiterlaw05: few, number. -/
import Derived.Test.YtncloielmfplpaaGroupsI
import Derived.Test.YtncloielmfplpaaLawFrame
namespace Go.Proofs.Ytncloielmfplpaa
open Go.RowKit
set_option linter.unusedVariables false
set_option linter.unusedSimpArgs false

/-- gv is a slice of slices that can be read: Ys. -/
def RdLs (w : World) (gv : Value) (Ys : List (List Int)) : Prop :=
  ∃ vs : List Value, Rd w 1 gv vs.length vs ∧ vs.length = Ys.length ∧ ∀ i (h : i < vs.length) (h' : i < Ys.length), Rd w 1 vs[i] Ys[i].length (cellsOf encI Ys[i])

theorem RdLs.of_ls {w : World} {gv : Value} {F : Nat → Prop} {Ys : List (List Int)} (h : LsXI w gv F Ys) : RdLs w gv Ys := by
  obtain ⟨vs, h1, h2, _, _⟩ := h
  exact ⟨vs, h1.rd, h2.len, fun i hi hi' => (h2.own i hi hi').rd⟩

/-- The number of the first list that holds k; -1: none. -/
def numI (Ys : List (List Int)) (k : Int) : Int := if Ys.findIdx (fun Y => decide (k ∈ Y)) < Ys.length then (Ys.findIdx (fun Y => decide (k ∈ Y)) : Nat) else -1

theorem numI_hit {Ys : List (List Int)} {k : Int} {i : Nat} (hi : i < Ys.length) (h : k ∈ Ys[i]) (hb : ∀ t (ht : t < Ys.length), t < i → k ∉ Ys[t]) : numI Ys k = i := by
  have e : Ys.findIdx (fun Y => decide (k ∈ Y)) = i := by
    rw [List.findIdx_eq hi]
    exact ⟨by simpa using h, fun j hj => by simpa using hb j (by omega) hj⟩
  unfold numI
  rw [e, if_pos hi]

theorem numI_miss {Ys : List (List Int)} {k : Int} (hb : ∀ t (ht : t < Ys.length), k ∉ Ys[t]) : numI Ys k = -1 := by
  unfold numI
  rw [if_neg]
  intro h
  have := List.findIdx_getElem (w := h)
  exact hb _ h (by simpa using this)

set_option maxRecDepth 100000 in
set_option maxHeartbeats 4000000 in
theorem number5 {w : World} {gv : Value} {Ys : List (List Int)} (h : RdLs w gv Ys) (k : Int) : Calls Try.prog 11 #[gv, .int .i64 k] w fun e w' => e = .returned (.int .i64 (numI Ys k)) ∧ w = w' := by
  obtain ⟨vs, h1, hl, h2⟩ := h
  have h1' := h1
  obtain ⟨a, c, rfl, r1, r2, r3⟩ := h1.2
  rw [hl] at r1
  have R3 := Lib.hid r3
  have H2 := Lib.hid h2
  unfold maxLen at r2
  rw [hl]
  clear h1 h2 r3
  go_enter Try.func11, Try.ntmps11
  go_wp2
  go_loopw [5] (fun x wr => ∃ i : Nat, i ≤ Ys.length ∧ x = .int .i64 i ∧ w = wr ∧ Hid (∀ t (ht : t < Ys.length), t < i → k ∉ Ys[t])) (fun x _ => Ys.length - (intOf x).toNat)
  case atStart => exact ⟨0, Nat.zero_le _, rfl, rfl, Lib.hid (fun t _ h => absurd h (Nat.not_lt_zero _))⟩
  case round =>
    obtain ⟨i, hi, rfl, rfl, hB⟩ := hrel
    by_cases hlt : i < Ys.length
    · have hii : (i : Int) < (Ys.length : Int) := by omega
      have hb := H2.out i (by omega) hlt
      cases a with
      | none => exact absurd (R3.out.1 rfl).1 (by omega)
      | some ad =>
        have c0 : w.cell? (ad.add i) = some (vs[i]'(by omega)) := R3.out.2 ad rfl i _ (by simp [show i < vs.length by omega])
        have HIT : Hid (k ∈ Ys[i] → numI Ys k = i) := Lib.hid fun hk => numI_hit hlt hk hB.out
        have HNX : Hid (k ∉ Ys[i] → ∀ t (ht : t < Ys.length), t < i + 1 → k ∉ Ys[t]) := Lib.hid fun hk t ht htl => by
          rcases Nat.lt_or_ge t i with h3 | h3
          · exact hB.out t ht h3
          · obtain rfl : t = i := by omega
            exact hk
        generalize vs[i]'(by omega) = v at hb c0
        generalize Ys[i] = Y at hb HIT HNX
        obtain ⟨ya, yc, rfl, y1, y2, y3⟩ := hb.2
        unfold maxLen at y2
        have Y3 := Lib.hid y3
        have HP0 : Hid (k ∉ Y.take 0) := Lib.hid (by simp)
        clear hb y3 hB hlt h1'
        go_wp2
        go_loopw [6] (fun x wr => ∃ j : Nat, j ≤ Y.length ∧ x = .int .i64 j ∧ w = wr ∧ Hid (k ∉ Y.take j)) (fun x _ => Y.length - (intOf x).toNat)
        case atStart => exact ⟨0, Nat.zero_le _, rfl, rfl, HP0⟩
        case round =>
          clear HP0
          obtain ⟨j, hj, rfl, rfl, hP⟩ := hrel
          by_cases hltj : j < Y.length
          · have hjj : (j : Int) < (Y.length : Int) := by omega
            cases ya with
            | none => exact absurd (Y3.out.1 rfl).1 (by omega)
            | some yd =>
              have c1 : w.cell? (yd.add j) = some (.int .i64 (Y[j])) := Y3.out.2 yd rfl j _ (by rw [cellsEncI]; simp [hltj, encI])
              by_cases he : Y[j] = k
              · have HK := Lib.hid (HIT.out (he ▸ List.getElem_mem hltj))
                rw [he] at c1
                clear hltj he hP
                go_wp2
                go_ret
                rw [HK.out]
                exact ⟨rfl, rfl⟩
              · have HP : Hid (k ∉ Y.take (j + 1)) := Lib.hid (by
                  rw [List.take_succ_eq_append_getElem hltj, List.mem_append, List.mem_singleton]
                  rintro (h | h)
                  · exact hP.out h
                  · exact he h.symm)
                generalize Y[j] = y at c1 he
                have hne : (y == k) = false := by simpa using he
                clear hP he hltj
                go_wp2
                go_roundw
                case rel => exact ⟨j + 1, by omega, by go_num, by trivial, HP⟩
                case measure => simp [intOf]; omega
          · obtain rfl : j = Y.length := by omega
            have HP := Lib.hid (HNX.out (by have := hP.out; rwa [List.take_length] at this))
            clear hP hltj hj
            go_wp2
            go_roundw
            case rel => exact ⟨i + 1, by omega, by go_num, by trivial, HP⟩
            case measure => simp [intOf]; omega
    · have HM := Lib.hid (numI_miss (Ys := Ys) (k := k) (fun t ht => hB.out t ht (by omega)))
      have hii : ¬ (i : Int) < (Ys.length : Int) := by omega
      clear hB
      go_wp2
      go_ret
      rw [HM.out]
      exact ⟨rfl, rfl⟩

set_option maxRecDepth 100000 in
theorem fewY {w : World} {na ua : Option Addr} {n nc m uc : Nat} (h1 : n ≤ 100) (h2 : m ≤ 1000) : Calls Try.prog 9 #[.slice na n nc, .slice ua m uc] w fun e w' => e = .returned (.bool true) ∧ w = w' := by
  have e1 : decide ((n : Int) ≤ 100) = true := by simp; omega
  have e2 : decide ((m : Int) ≤ 1000) = true := by simp; omega
  go_enter Try.func9, Try.ntmps9
  go_wp2
  go_ret
  refine ⟨?_, rfl⟩
  simp [h1, h2]

set_option maxRecDepth 100000 in
theorem fewN {w : World} {na ua : Option Addr} {n nc m uc : Nat} (h : ¬ (n ≤ 100 ∧ m ≤ 1000)) : Calls Try.prog 9 #[.slice na n nc, .slice ua m uc] w fun e w' => e = .returned (.bool false) ∧ w = w' := by
  by_cases h1 : n ≤ 100
  · have h2 : ¬ m ≤ 1000 := fun h2 => h ⟨h1, h2⟩
    have e1 : decide ((n : Int) ≤ 100) = true := by simp; omega
    have e2 : decide ((m : Int) ≤ 1000) = false := by simp; omega
    go_enter Try.func9, Try.ntmps9
    go_wp2
    go_ret
    refine ⟨?_, rfl⟩
    simp [h1, h2]
  · have e1 : decide ((n : Int) ≤ 100) = false := by simp; omega
    go_enter Try.func9, Try.ntmps9
    go_wp2
    go_ret
    refine ⟨?_, rfl⟩
    simp [h1]

end Go.Proofs.Ytncloielmfplpaa
