/- make of a slice whose elements are one cell each: what it holds (plain; over whatever program). -/
import Derived.Test.YtncloielmfplpaaBase
import Derived.Laws.MakeOwn
namespace Go.Proofs.Ytncloielmfplpaa
open Go.RowKit
set_option linter.unusedVariables false
set_option linter.unusedSimpArgs false

theorem madeCells_one (z : Value) (n : Nat) : (madeCells #[z] n).toList = List.replicate n z := by
  apply List.ext_getElem
  · simp [size_madeCells]
  · intro i h1 h2
    simp [madeCells, Nat.mod_one]

theorem run_make_one {P : Program} {T e : TypeId} {z : Value} {bytes : Nat} (S : SlT P T e z 1 bytes) (hz : z.cells = #[z]) (w : World) (l c : Nat) (hlc : l ≤ c) (hb : bytes * c ≤ 281474976710656) (hm : c ≤ maxLen) :
    ∃ w', (∀ (x y : Int), x = (l : Int) → y = (c : Int) → (Instr.makeSlice T (.int .i64 x) (.int .i64 y)).run P w = .ok (.slice (some ⟨w.heap.size, 0, none⟩) l c) w') ∧ Own w' e 1 (.slice (some ⟨w.heap.size, 0, none⟩) l c) l (List.replicate l z) ∧ Kept (fun _ => False) w w' ∧ w'.heap.size = w.heap.size + 1 := by
  obtain ⟨i, hi, hz0, hs, hby⟩ := S.info
  subst hby
  have hb' : (i.bytes : Int) * (c : Int) ≤ 281474976710656 := by
    have h : ((i.bytes * c : Nat) : Int) ≤ 281474976710656 := by omega
    rwa [Int.natCast_mul] at h
  have h63 : (c : Int) ≤ 9223372036854775807 := by unfold maxLen at hm; omega
  have hr := run_make (P := P) w T e i z S.und hi hz0 .i64 .i64 l c (by omega) (by omega) hb' h63
  simp only [Int.toNat_natCast, hs, hz, Nat.mul_one] at hr
  refine ⟨_, fun x y hx hy => by subst hx hy; exact hr, ⟨by simp, .inr ⟨w.heap.size, 0, c, _, rfl, heap_alloc_new _ _, hlc, hm, ?_, ?_⟩⟩, (Kept.refl _ w).alloc _, by simp⟩
  · rw [size_madeCells]; omega
  · rw [List.drop_zero, madeCells_one, List.take_replicate]
    congr 1
    omega

end Go.Proofs.Ytncloielmfplpaa
