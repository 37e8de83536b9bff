/- The fixed run of layer 5. -/
import Derived.Test.YtncloielmfplpaaGroupsS
import Derived.Test.YtncloielmfplpaaLawFrame
namespace Go.Proofs.Ytncloielmfplpaa
open Go.RowKit
set_option linter.unusedVariables false
set_option linter.unusedSimpArgs false

def wL : List (List Nat) := [[1], []]

theorem wL_reach1 {x : Nat} (h : Reach (nxt wL) 1 x) : x = 1 := by
  induction h with
  | refl => rfl
  | @step b c _ hc ih =>
    subst ih
    simp [nxt, wL] at hc

theorem wL_reach0 {x : Nat} (h : Reach (nxt wL) 0 x) : x = 0 ∨ x = 1 := by
  induction h with
  | refl => exact .inl rfl
  | @step b c _ hc ih =>
    rcases ih with rfl | rfl
    · simp [nxt, wL] at hc
      exact .inr hc
    · simp [nxt, wL] at hc

theorem wL_apart : ¬ Same (nxt wL) 0 1 := fun h => by have := wL_reach1 h.2; omega

theorem wL_told {k : Nat} : ¬ Told wL [] k := by rintro ⟨o, ho, _⟩; cases ho

theorem wL_leds : leds wL 2 = [1, 0] := by
  have h01 : Reach (nxt wL) 0 1 := .one (by simp [nxt, wL])
  have n1 : Next wL 2 [] 1 := by
    refine ⟨by omega, ⟨wL_told, fun x hx => ?_⟩, fun j hj hr => ?_⟩
    · rw [wL_reach1 hx]
      exact .inl (.refl _)
    · obtain rfl : j = 0 := by omega
      rcases hr.2 1 h01 with h | h
      · exact wL_apart h
      · exact wL_told h
  have n2 : Next wL 2 [1] 0 := by
    refine ⟨by omega, ⟨?_, fun x hx => ?_⟩, fun j hj => by omega⟩
    · rintro ⟨o, ho, hs⟩
      rw [List.mem_singleton.1 ho] at hs
      exact wL_apart hs.symm
    · rcases wL_reach0 hx with rfl | rfl
      · exact .inl (.refl _)
      · exact .inr ⟨1, by simp, .refl _⟩
  refine leds_eq (.snoc (.snoc .nil n1) n2) fun x hx => ?_
  rcases (show x = 0 ∨ x = 1 by omega) with rfl | rfl
  · exact ⟨0, by simp, .refl _⟩
  · exact ⟨1, by simp, .refl _⟩

theorem wakes_out : errOf [[97], [98]] [(([97] : List UInt8), ([98] : List UInt8))] = 0 ∧ gOut [[97], [98]] [(([97] : List UInt8), ([98] : List UInt8))] = [[[98]], [[97]]] := by
  have h0 : errOf [[97], [98]] [(([97] : List UInt8), ([98] : List UInt8))] = 0 := by
    unfold errOf
    rw [if_pos (by decide), if_pos (by decide)]
  refine ⟨h0, ?_⟩
  have hL : graphL [[97], [98]] [(([97] : List UInt8), ([98] : List UInt8))] = wL := by decide
  unfold gOut
  rw [if_pos h0, hL]
  have e : ([[97], [98]] : List (List UInt8)).length = 2 := rfl
  rw [e, wL_leds]
  have p1 : pick (sm wL 1) ([[97], [98]] : List (List UInt8)) = [[98]] := by
    rw [pick_congr (g := fun k => k == 1) (fun i hi => ?_)]
    · decide
    · rw [Bool.eq_iff_iff, sm_iff]
      rcases (show i = 0 ∨ i = 1 by simp at hi; omega) with rfl | rfl
      · simp
        exact fun h => wL_apart h.symm
      · simp
        exact .refl _
  have p0 : pick (sm wL 0) ([[97], [98]] : List (List UInt8)) = [[97]] := by
    rw [pick_congr (g := fun k => k == 0) (fun i hi => ?_)]
    · decide
    · rw [Bool.eq_iff_iff, sm_iff]
      rcases (show i = 0 ∨ i = 1 by simp at hi; omega) with rfl | rfl
      · simp
        exact .refl _
      · simp
        exact wL_apart
  simp only [List.map_cons, List.map_nil, p1, p0]

set_option maxRecDepth 100000 in
set_option maxHeartbeats 4000000 in
theorem wakes5 (w : World) : Calls Try.prog 8 #[] w fun e w' => e = .returned (.bool true) ∧ Below w.heap.size w w' := by
  obtain ⟨wA, hwA⟩ : ∃ wA, wA = (w.alloc (.cells #[.string ⟨#[97]⟩, .string ⟨#[98]⟩] 9)).alloc (.cells #[.string ⟨#[97]⟩, .string ⟨#[98]⟩] 52) := ⟨_, rfl⟩
  have hs : wA.heap.size = w.heap.size + 2 := by rw [hwA]; simp
  have r1 : Rd wA 1 (.slice (some ⟨w.heap.size, 0, none⟩) 2 2) 2 (cellsOf encS [[97], [98]]) := by
    rw [hwA]
    exact (Own.rd (Own.fresh (w := w) (e := 9) (sz := 1) (n := 2) (cs := #[.string ⟨#[97]⟩, .string ⟨#[98]⟩]) (by rfl) (by decide))).alloc _
  have r2 : Rd wA 2 (.slice (some ⟨w.heap.size + 1, 0, none⟩) 1 1) 1 (cellsOf encPrS [([97], [98])]) := by
    rw [hwA]
    have := Own.rd (Own.fresh (w := w.alloc (.cells #[.string ⟨#[97]⟩, .string ⟨#[98]⟩] 9)) (e := 52) (sz := 2) (n := 1) (cs := #[.string ⟨#[97]⟩, .string ⟨#[98]⟩]) (by rfl) (by decide))
    rw [World.size_alloc] at this
    exact this
  have HG := Lib.hid (groupsS (w := wA) (nodes := [[97], [98]]) (uses := [([97], [98])]) r1 r2 (by decide) (by decide))
  rw [wakes_out.1, wakes_out.2] at HG
  have hk : Kept (fun _ => False) w wA := by rw [hwA]; exact ((Kept.refl _ w).alloc _).alloc _
  have HK := Lib.hid hk
  rw [hwA] at HG HK
  clear hwA hs r1 r2 hk
  go_enter Try.func8, Try.ntmps8
  go_wp2_with fail
  refine HG.out.mono ?_
  rintro e w1 ⟨v, F, rfl, hl, hk, hF⟩
  have HB : Hid (Below w.heap.size w w1) := Lib.hid ((HK.out.trans' hk (fun _ _ h => h)).below (Nat.le_refl _) (fun _ _ => id))
  obtain ⟨g, off, cap, v0, rfl, _, _, c0, _, o0, _, _, _, _⟩ := hl.row (i := 0) (by decide)
  obtain ⟨g', off', cap', v1, hv, _, _, c1, _, o1, _, _, _, _⟩ := hl.row (i := 1) (by decide)
  simp only [Value.slice.injEq, Option.some.injEq, Addr.mk.injEq, and_true] at hv
  obtain ⟨⟨rfl, rfl⟩, _, rfl⟩ := hv
  obtain ⟨b0, f0, p0, rfl, _, _, d0, _, _⟩ := o0.elt (by decide)
  obtain ⟨b1, f1, p1, rfl, _, _, d1, _, _⟩ := o1.elt (by decide)
  have x0 : w1.cell? ⟨b0, f0, none⟩ = some (.string ⟨#[98]⟩) := d0 0 _ rfl
  have x1 : w1.cell? ⟨b1, f1, none⟩ = some (.string ⟨#[97]⟩) := d1 0 _ rfl
  clear hl hk hF o0 o1 d0 d1 HG HK
  have y0 : w1.cell? ⟨g, off, none⟩ = some (.slice (some ⟨b0, f0, none⟩) 1 p0) := c0
  have y1 : w1.cell? ⟨g, off + 1, none⟩ = some (.slice (some ⟨b1, f1, none⟩) 1 p1) := c1
  clear c0 c1
  go_wp2
  go_ret
  exact ⟨rfl, HB.out⟩

end Go.Proofs.Ytncloielmfplpaa
