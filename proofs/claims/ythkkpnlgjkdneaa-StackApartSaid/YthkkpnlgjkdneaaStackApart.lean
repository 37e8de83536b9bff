/- The walk of StackApart. -/
import Derived.Test.YthkkpnlgjkdneaaStackApartIn
import Derived.Test.YthkkpnlgjkdneaaStackApartLo
import Derived.Test.YthkkpnlgjkdneaaStackApartHi
namespace Go.Proofs.Ythkkpnlgjkdneaa
open Go.ChangeShapes Go.WideShapes Go.ChangeAt Go.RowKit
set_option linter.unusedVariables false
set_option linter.unusedSimpArgs false

set_option maxRecDepth 100000 in
theorem stackApart_big (v0 : Value) (xs : List Int) (n : Int) (w : World) (hx : Rd w 1 v0 xs.length (cellsOf encI xs)) (hs : 262144 < xs.length) :
    Calls Try.prog 3 #[v0, .int .i64 n] w fun e w' => e = .returned (.bool true) ∧ Below w.heap.size w w' := by
  obtain ⟨_, a, ca, rfl, ka1, ka2, ka3, _⟩ := id hx
  have hle : (262144 : Int) < (xs.length : Int) := by omega
  clear hx ka3 hs ka2
  go_enter Try.func3, Try.ntmps3
  go_wp2_with fail
  refine (wakes_any w).mono ?_
  rintro e w1 ⟨rfl, hb1⟩
  go_wp2
  go_ret
  exact ⟨rfl, hb1⟩

theorem stackApart_walk (v0 : Value) (xs : List Int) (n : Int) (w : World) (hx : Rd w 1 v0 xs.length (cellsOf encI xs)) :
    Calls Try.prog 3 #[v0, .int .i64 n] w fun e w' => e = .returned (.bool true) ∧ Below w.heap.size w w' := by
  rcases Nat.lt_or_ge 262144 xs.length with h | h
  · exact stackApart_big v0 xs n w hx h
  · rcases Int.lt_or_le n 0 with h1 | h1
    · exact stackApart_lo v0 xs w hx h1 h
    · rcases Int.lt_or_le (xs.length : Int) n with h2 | h2
      · exact stackApart_hi v0 xs w hx h2 h
      · obtain ⟨m, rfl⟩ := Int.eq_ofNat_of_zero_le h1
        exact stackApart_in v0 xs w hx (by omega) h

set_option maxRecDepth 100000 in
theorem stackApart_calls : LawCalls Try.prog 3 Try.f3 := by
  intro H enc W args ds ps hval hA hsz
  rw [Try.params3] at hA hval hsz
  obtain ⟨v0, v1, d0, d1, p0, p1, rfl, rfl, _, h0, h1⟩ := trodAll_two hA
  obtain ⟨base0, hok0⟩ := hval 0 _ v0 rfl rfl
  obtain ⟨base1, hok1⟩ := hval 1 _ v1 rfl rfl
  obtain ⟨xs, hx, _, _⟩ := open_ints_arg hok0 h0
  obtain ⟨k, rfl, _, _, _⟩ := open_int Try.underlying3 hok1 h1
  exact stackApart_walk v0 xs k W hx

end Go.Proofs.Ythkkpnlgjkdneaa
