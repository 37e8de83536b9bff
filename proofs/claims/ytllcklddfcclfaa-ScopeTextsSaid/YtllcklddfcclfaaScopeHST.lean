/- The scope's Here at one pair of types. -/
import Derived.Test.YtllcklddfcclfaaScopeBST
import Derived.StillTailTactics
import Derived.IntWalk
namespace Go.Proofs.Ytllcklddfcclfaa
open Go.RowKit
set_option linter.unusedVariables false
set_option linter.unusedSimpArgs false

section
variable {p : Value} {F : Nat → Prop} {fr : List (Fr (List UInt8) (Tok))} {f : Fr (List UInt8) (Tok)} {w : World}

set_option maxRecDepth 100000 in
set_option maxHeartbeats 1000000 in
theorem scopeHereST (h : ScopeST w p F (fr ++ [f])) (hf : Fits f.items.length 16) :
    Calls Try.prog 34 #[p] w fun e w' => ∃ v, e = .returned v ∧ Fresh w w' 9 1 v f.items.length (cellsOf encS f.keys) := by
  obtain ⟨sb, v, rfl, h1, h2, h3, h4, hF⟩ := h
  obtain ⟨g, off, c, hv, a1, a2, hcell, hfr, hgl⟩ := h2.elt (by simp)
  have c0 : w.cell? ⟨sb, 0, none⟩ = some v := cell_of h1 rfl
  have hcl := cells_length fr
  have c2 : w.cell? ⟨g, off + fr.length * 2 + 1, none⟩ = some f.kv := hcell (fr.length * 2 + 1) _ (by rw [List.flatMap_append, List.getElem?_append_right (by omega), hcl, show fr.length * 2 + 1 - fr.length * 2 = 1 by omega]; simp [Fr.cells])
  have hff := h3 f (by simp)
  rw [hv] at c0
  simp only [List.length_append, List.length_singleton] at c0 a1
  unfold maxLen at a2
  have hw1 : (0 : Int) ≤ (fr.length : Int) := by omega
  have hw2 : IntKind.i64.wrap (fr.length : Int) = fr.length := IntWalk.i64_in _ (by omega)
  have hw3 : (fr.length : Int) < (fr.length : Int) + 1 := by omega
  have hone : ∀ u ∈ cellsOf encS f.keys, u.oneCell' = true := oneS f.keys
  have HC : Hid (∀ n, Calls Try.prog 50 #[f.kv] (w.drewN n) fun e w' => ∃ v', e = .returned v' ∧ Fresh (w.drewN n) w' 9 1 v' f.items.length (cellsOf encS f.keys)) :=
    Lib.hid (fun n => cloneS f.kv f.items.length (cellsOf encS f.keys) (w.drewN n) hff.2.1.rd hone hf)
  clear hfr hcell hcl h2 h3 h4 hF hff hf hv h1 hone
  go_enter Try.func34, Try.ntmps34
  go_wp2_with fail
  go_still_tail 13, (by kernel_rfl)
  clear hw2 hw3
  change wpList _ _ _ _ _ w.drew
  go_wp2_with (go_at_call 50; refine (HC.out 1).mono ?_; rintro e w1 ⟨v1, rfl, hfr1⟩)
  go_ret
  exact ⟨_, rfl, hfr1.1, ⟨hfr1.2.1.os, hfr1.2.1.tape, hfr1.2.1.output, hfr1.2.1.size, hfr1.2.1.block⟩, hfr1.2.2⟩

end

end Go.Proofs.Ytllcklddfcclfaa
