/- The reference of layer 5: place, checks, lists. -/
import Derived.Test.YtncloielmfplpaaRch5
import Derived.Shelf.Abstract
import Derived.Deep.RegionLaw
namespace Go.Proofs.Ytncloielmfplpaa
open Go.RowKit Go.Shelf
set_option linter.unusedVariables false
set_option linter.unusedSimpArgs false

/-- A call of a function that turns nothing, as a step of a region that draws its order. -/
theorem step_call {P : Program} {w : World} {ops : Array Oper} {o : Oper} {a : Act} {K : Act → World → Prop} {Q : Exit → Act → World → Prop} {E : Prop}
    (hgd : o.guard = none) (f : Nat) (x y : Operand) (tys : Array TypeId) (ho : o.op = .call { callee := .value (.func f), args := #[x, y], argTypes := tys }) (he : ∀ args w, (callFunc f args).run P w = .ok (.enter f args) w) {xv yv v : Value}
    (hx : a.eval x = xv) (hy : a.eval y = yv) (hc : Calls P f #[xv, yv] w fun e w' => e = .returned v ∧ w = w') (h : K (a.put o.dst v) w) :
    if Region.wanted o (yielded ops a.tmps) = true then Oper.wp P o a w K Q else E := by
  have hw : Region.wanted o (yielded ops a.tmps) = true := by simp [Region.wanted, hgd]
  rw [if_pos hw]
  have he' : (callFunc f #[xv, yv]).run P w = .ok (.enter f #[xv, yv]) w := he _ _
  have e : (execOp a.eval o).run P w = .ok (.enter f #[xv, yv]) w := by
    unfold execOp
    have hef : a.eval (.func f) = .func (.func f) #[] #[] := rfl
    simp [ho, resolve, Deferred.ofValue, invoke, hx, hy, hef, he', Result.andThen]
  unfold Oper.wp
  rw [e]
  exact hc.mono fun e w' h2 => by obtain ⟨rfl, rfl⟩ := h2; exact h

/-- The place of k; -1: it is not there. -/
def plc (nodes : List Int) (k : Int) : Int := if k ∈ nodes then (nodes.idxOf k : Nat) else -1

theorem idxOf_first {l : List Int} {k : Int} {i : Nat} (hi : i < l.length) (h : l[i] = k) (hb : k ∉ l.take i) : l.idxOf k = i := by
  induction l generalizing i with
  | nil => simp at hi
  | cons a l ih =>
    cases i with
    | zero =>
      simp at h
      simp [h]
    | succ i =>
      simp only [List.take_succ_cons, List.mem_cons, not_or] at hb
      simp only [List.getElem_cons_succ] at h
      rw [List.idxOf_cons, ih (by simpa using hi) h hb.2]
      have : (a == k) = false := by simpa using fun e : a = k => hb.1 e.symm
      rw [this]
      rfl

set_option maxRecDepth 100000 in
set_option maxHeartbeats 4000000 in
theorem place5 {w : World} {nv : Value} {nodes : List Int} (h : Rd w 1 nv nodes.length (cellsOf encI nodes)) (k : Int) : Calls Try.prog 33 #[nv, .int .i64 k] w fun e w' => e = .returned (.int .i64 (plc nodes k)) ∧ w = w' := by
  obtain ⟨a, c, rfl, r1, r2, r3⟩ := h.2
  have R3 := Lib.hid r3.1
  have H := Lib.hid h
  unfold maxLen at r2
  clear h r3
  go_enter Try.func33, Try.ntmps33
  go_wp2
  go_loopw [5] (fun x wr => ∃ i : Nat, i ≤ nodes.length ∧ x = .int .i64 i ∧ w = wr ∧ Hid (k ∉ nodes.take i)) (fun x _ => nodes.length - (intOf x).toNat)
  case atStart => exact ⟨0, Nat.zero_le _, rfl, rfl, Lib.hid (by simp)⟩
  case round =>
    obtain ⟨i, hi, rfl, rfl, hB⟩ := hrel
    by_cases hlt : i < nodes.length
    · have hii : (i : Int) < (nodes.length : Int) := by omega
      cases a with
      | none => exact absurd (R3.out rfl).1 (by omega)
      | some ad =>
        have c0 := rdOneI H.out hlt
        unfold encI at c0
        by_cases he : nodes[i] = k
        · have HR : Hid (plc nodes k = i) := Lib.hid (by
            unfold plc
            rw [if_pos (he ▸ List.getElem_mem hlt), idxOf_first hlt he hB.out])
          rw [he] at c0
          clear hB hlt he
          go_wp2
          go_ret
          rw [HR.out]
          exact ⟨rfl, rfl⟩
        · have HB : Hid (k ∉ nodes.take (i + 1)) := Lib.hid (by
            rw [List.take_succ_eq_append_getElem hlt, List.mem_append, List.mem_singleton]
            rintro (h | h)
            · exact hB.out h
            · exact he h.symm)
          generalize nodes[i] = y at c0 he
          have hne : (y == k) = false := by simpa using he
          clear hB he hlt
          go_wp2
          go_roundw
          case rel => exact ⟨i + 1, by omega, by go_num, by trivial, HB⟩
          case measure => simp [intOf]; omega
    · have hii : ¬ (i : Int) < (nodes.length : Int) := by omega
      have HR : Hid (plc nodes k = -1) := Lib.hid (by
        unfold plc
        rw [if_neg]
        have := hB.out
        rwa [List.take_of_length_le (by omega)] at this)
      clear hB
      go_wp2
      go_ret
      rw [HR.out]
      exact ⟨rfl, rfl⟩

theorem nodup_of_idx {l : List Int} (h : ∀ i (hi : i < l.length), l.idxOf l[i] = i) : l.Nodup := by
  rw [List.nodup_iff_pairwise_ne, List.pairwise_iff_getElem]
  intro i j hi hj hij e
  have h1 := h i hi
  have h2 := h j hj
  rw [e] at h1
  omega

set_option maxRecDepth 100000 in
set_option maxHeartbeats 4000000 in
theorem checks5 {w : World} {nv uv : Value} {nodes : List Int} {uses : List (Int × Int)} (hn : Rd w 1 nv nodes.length (cellsOf encI nodes)) (hu : Rd w 2 uv uses.length (cellsOf encPrI uses)) :
    Calls Try.prog 30 #[nv, uv] w fun e w' => e = .returned (.int .i64 (errOf nodes uses)) ∧ w = w' := by
  obtain ⟨na, nc, rfl, n1, n2, n3⟩ := hn.2
  obtain ⟨ua, uc, rfl, u1, u2, u3⟩ := hu.2
  have HN := Lib.hid hn
  have HU := Lib.hid hu
  have N3 := Lib.hid n3.1
  have U3 := Lib.hid u3.1
  unfold maxLen at n2 u2
  have HPL : Hid (∀ k, Calls Try.prog 33 #[.slice na nodes.length nc, .int .i64 k] w fun e w' => e = .returned (.int .i64 (plc nodes k)) ∧ w = w') := Lib.hid fun k => place5 hn k
  clear hn hu n3 u3
  go_enter Try.func30, Try.ntmps30
  go_wp2
  go_loopw [5] (fun x wr => ∃ i : Nat, i ≤ nodes.length ∧ x = .int .i64 i ∧ w = wr ∧ Hid (∀ t (ht : t < nodes.length), t < i → nodes.idxOf nodes[t] = t)) (fun x _ => nodes.length - (intOf x).toNat)
  case atStart => exact ⟨0, Nat.zero_le _, rfl, rfl, Lib.hid (fun t _ h => absurd h (Nat.not_lt_zero _))⟩
  case round =>
    obtain ⟨i, hi, rfl, rfl, hB⟩ := hrel
    by_cases hlt : i < nodes.length
    · have hii : (i : Int) < (nodes.length : Int) := by omega
      cases na with
      | none => exact absurd (N3.out rfl).1 (by omega)
      | some ad =>
        have c0 := rdOneI HN.out hlt
        unfold encI at c0
        have HC := Lib.hid (HPL.out nodes[i])
        have hpl : plc nodes nodes[i] = (nodes.idxOf nodes[i] : Nat) := by unfold plc; rw [if_pos (List.getElem_mem hlt)]
        rw [hpl] at HC
        by_cases he : nodes.idxOf nodes[i] = i
        · have HB : Hid (∀ t (ht : t < nodes.length), t < i + 1 → nodes.idxOf nodes[t] = t) := Lib.hid fun t ht h => by
            rcases Nat.lt_or_ge t i with h1 | h1
            · exact hB.out t ht h1
            · obtain rfl : t = i := by omega
              exact he
          rw [he] at HC
          generalize nodes[i] = y at c0 HC
          clear hB he hlt hpl
          go_wp2_with fail
          refine HC.out.mono ?_
          rintro e w4 ⟨rfl, rfl⟩
          go_wp2
          go_roundw
          case rel => exact ⟨i + 1, by omega, by go_num, by trivial, HB⟩
          case measure => simp [intOf]; omega
        · have HE : Hid (errOf nodes uses = 5) := Lib.hid (by
            unfold errOf
            rw [if_neg]
            intro hnd
            exact he (hnd.idxOf_getElem i hlt))
          generalize nodes.idxOf nodes[i] = q at HC he
          generalize nodes[i] = y at c0 HC
          have hne : ((q : Int) != (i : Int)) = true := by simp; omega
          clear hB he hlt hpl
          go_wp2_with fail
          refine HC.out.mono ?_
          rintro e w4 ⟨rfl, rfl⟩
          go_wp2
          go_ret
          rw [HE.out]
          exact ⟨rfl, rfl⟩
    · have hii : ¬ (i : Int) < (nodes.length : Int) := by omega
      have HND := Lib.hid (nodup_of_idx (l := nodes) (fun t ht => hB.out t ht (by omega)))
      clear hB hlt
      go_wp2_with fail
      go_loopw [6] (fun x wr => ∃ i : Nat, i ≤ uses.length ∧ x = .int .i64 i ∧ w = wr ∧ Hid (∀ t (ht : t < uses.length), t < i → uses[t].1 ∈ nodes ∧ uses[t].2 ∈ nodes)) (fun x _ => uses.length - (intOf x).toNat)
      case atStart => exact ⟨0, Nat.zero_le _, rfl, rfl, Lib.hid (fun t _ h => absurd h (Nat.not_lt_zero _))⟩
      case round =>
        clear hii hi
        obtain ⟨i, hi, rfl, rfl, hB⟩ := hrel
        by_cases hlt : i < uses.length
        · have hii : (i : Int) < (uses.length : Int) := by omega
          cases ua with
          | none => exact absurd (U3.out rfl).1 (by omega)
          | some ad =>
            obtain ⟨p0, p1⟩ := rdPrI HU.out hlt
            have HNX : Hid (uses[i].1 ∈ nodes → uses[i].2 ∈ nodes → ∀ t (ht : t < uses.length), t < i + 1 → uses[t].1 ∈ nodes ∧ uses[t].2 ∈ nodes) := Lib.hid fun h1 h2 t ht h => by
              rcases Nat.lt_or_ge t i with h3 | h3
              · exact hB.out t ht h3
              · obtain rfl : t = i := by omega
                exact ⟨h1, h2⟩
            have HER : Hid (¬ (uses[i].1 ∈ nodes ∧ uses[i].2 ∈ nodes) → errOf nodes uses = 6) := Lib.hid fun h => by
              unfold errOf
              rw [if_pos HND.out, if_neg]
              intro hall
              exact h (hall _ (List.getElem_mem hlt))
            generalize uses[i] = u at p0 p1 HNX HER
            obtain ⟨va, vb⟩ := u
            simp only [encI] at p0 p1 HNX HER
            have H1 := HPL.out va
            have H2 := HPL.out vb
            unfold plc at H1 H2
            clear hB hlt
            by_cases m1 : va ∈ nodes
            · rw [if_pos m1] at H1
              have d1 : decide (((nodes.idxOf va : Nat) : Int) < 0) = false := by simp
              by_cases m2 : vb ∈ nodes
              · rw [if_pos m2] at H2
                have d2 : decide (((nodes.idxOf vb : Nat) : Int) < 0) = false := by simp
                have Q := Lib.hid (HNX.out m1 m2)
                have C1 := Lib.hid H1
                have C2 := Lib.hid H2
                clear H1 H2 m1 m2
                go_wp2_with fail
                refine C1.out.mono ?_
                rintro e w4 ⟨rfl, rfl⟩
                go_wp2_with fail
                refine C2.out.mono ?_
                rintro e w4 ⟨rfl, rfl⟩
                go_wp2
                go_roundw
                case rel => exact ⟨i + 1, by omega, by go_num, by trivial, Q⟩
                case measure => simp [intOf]; omega
              · rw [if_neg m2] at H2
                have HE := Lib.hid (HER.out (fun h => m2 h.2))
                have C1 := Lib.hid H1
                have C2 := Lib.hid H2
                clear H1 H2 m1 m2
                go_wp2_with fail
                refine C1.out.mono ?_
                rintro e w4 ⟨rfl, rfl⟩
                go_wp2_with fail
                refine C2.out.mono ?_
                rintro e w4 ⟨rfl, rfl⟩
                go_wp2
                go_ret
                rw [HE.out]
                exact ⟨rfl, rfl⟩
            · rw [if_neg m1] at H1
              have HE := Lib.hid (HER.out (fun h => m1 h.1))
              have C1 := Lib.hid H1
              clear H1 H2 m1
              go_wp2_with fail
              refine C1.out.mono ?_
              rintro e w4 ⟨rfl, rfl⟩
              go_wp2
              go_ret
              rw [HE.out]
              exact ⟨rfl, rfl⟩
        · have hii : ¬ (i : Int) < (uses.length : Int) := by omega
          have HE : Hid (errOf nodes uses = 0) := Lib.hid (by
            unfold errOf
            rw [if_pos HND.out, if_pos]
            intro u hu
            obtain ⟨t, ht, rfl⟩ := List.mem_iff_getElem.1 hu
            exact hB.out t ht (by omega))
          clear hB
          go_wp2
          go_ret
          rw [HE.out]
          exact ⟨rfl, rfl⟩

end Go.Proofs.Ytncloielmfplpaa
