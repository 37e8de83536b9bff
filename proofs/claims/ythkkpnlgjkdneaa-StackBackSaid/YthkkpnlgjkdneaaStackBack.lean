/- The walk of StackBack. -/
import Derived.Test.YthkkpnlgjkdneaaStackBackIn
import Derived.Test.YthkkpnlgjkdneaaStackBackLo
import Derived.Test.YthkkpnlgjkdneaaStackBackHi
namespace Go.Proofs.Ythkkpnlgjkdneaa
open Go.ChangeShapes Go.WideShapes Go.ChangeAt Go.RowKit
set_option linter.unusedVariables false
set_option linter.unusedSimpArgs false

set_option maxRecDepth 100000 in
theorem stackBack_big (v0 v1 : Value) (xs ys : List Int) (cut : Int) (w : World) (hx : Rd w 1 v0 xs.length (cellsOf encI xs)) (hy : Rd w 1 v1 ys.length (cellsOf encI ys)) (hrx : xs.length * 8 ≤ 140737488351232) (hry : ys.length * 8 ≤ 140737488351232) (hsum : 1048576 < xs.length + ys.length) :
    Calls Try.prog 4 #[v0, v1, .int .i64 cut] w fun e w' => e = .returned (.bool true) ∧ Below w.heap.size w w' := by
  obtain ⟨_, a, ca, rfl, ka1, ka2, ka3, _⟩ := id hx
  obtain ⟨_, b, cb, rfl, kb1, kb2, kb3, _⟩ := id hy
  have hw1 : IntKind.i64.wrap ((xs.length : Int) + (ys.length : Int)) = (xs.length : Int) + (ys.length : Int) := IntWalk.i64_in _ (by omega)
  have hle : (1048576 : Int) < (xs.length : Int) + (ys.length : Int) := by omega
  clear hx hy ka3 kb3 hsum ka2 kb2 hrx hry
  go_enter Try.func4, Try.ntmps4
  go_wp2_with fail
  refine (wakes_any w).mono ?_
  rintro e w1 ⟨rfl, hb1⟩
  go_wp2
  go_ret
  exact ⟨rfl, hb1⟩

theorem stackBack_walk (v0 v1 : Value) (xs ys : List Int) (cut : Int) (w : World) (hx : Rd w 1 v0 xs.length (cellsOf encI xs)) (hy : Rd w 1 v1 ys.length (cellsOf encI ys)) (hrx : xs.length * 8 ≤ 140737488351232) (hry : ys.length * 8 ≤ 140737488351232) :
    Calls Try.prog 4 #[v0, v1, .int .i64 cut] w fun e w' => e = .returned (.bool true) ∧ Below w.heap.size w w' := by
  rcases Nat.lt_or_ge 1048576 (xs.length + ys.length) with h | h
  · exact stackBack_big v0 v1 xs ys cut w hx hy hrx hry h
  · rcases Int.lt_or_le cut 0 with h1 | h1
    · exact stackBack_lo v0 v1 xs ys w hx hy h1 h
    · rcases Int.lt_or_le (ys.length : Int) cut with h2 | h2
      · exact stackBack_hi v0 v1 xs ys w hx hy h2 h
      · obtain ⟨m, rfl⟩ := Int.eq_ofNat_of_zero_le h1
        exact stackBack_in v0 v1 xs ys w hx hy (by omega) h

set_option maxRecDepth 100000 in
theorem stackBack_calls : LawCalls Try.prog 4 Try.f4 := by
  intro H enc W args ds ps hval hA hsz
  rw [Try.params4] at hA hval hsz
  obtain ⟨v0, v1, v2, d0, d1, d2, p0, p1, p2, rfl, rfl, _, h0, h1, h2⟩ := trodAll_three hA
  obtain ⟨base0, hok0⟩ := hval 0 _ v0 rfl rfl
  obtain ⟨base1, hok1⟩ := hval 1 _ v1 rfl rfl
  obtain ⟨base2, hok2⟩ := hval 2 _ v2 rfl rfl
  obtain ⟨xs, hx, _, hr⟩ := open_ints_arg hok0 h0
  obtain ⟨ys, hy, _, hr'⟩ := open_ints_arg hok1 h1
  obtain ⟨k, rfl, _, _, _⟩ := open_int Try.underlying3 hok2 h2
  exact stackBack_walk v0 v1 xs ys k W hx hy (hr hsz (j := 0) rfl rfl) (hr' hsz (j := 1) rfl rfl)

end Go.Proofs.Ythkkpnlgjkdneaa
