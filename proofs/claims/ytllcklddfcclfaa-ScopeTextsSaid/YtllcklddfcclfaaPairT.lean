/- The walk of Pair. -/
import Derived.Test.YtllcklddfcclfaaDigits
namespace Go.Proofs.Ytllcklddfcclfaa
open Go.RowKit
set_option linter.unusedVariables false
set_option linter.unusedSimpArgs false

set_option maxRecDepth 100000 in
theorem pair_tok (n : Int) (w : World) (h0 : -9223372036854775808 ≤ n) (h1 : n ≤ 9223372036854775807) :
    Calls Try.prog 29 #[.int .i64 n] w fun e w' => e = .returned (encT (tokOf n)) ∧ Kept (fun _ => False) w w' := by
  obtain ⟨S, hS⟩ : ∃ S : ByteArray, S = ⟨(textB n).toArray⟩ := ⟨_, rfl⟩
  have HS := Lib.hid hS
  have hT := text_text n (w.alloc (.cells #[.int .i64 0, .string ⟨#[]⟩, .int .i64 0, .int .i64 0] 48)) h0 h1
  rw [← hS] at hT
  have HT := Lib.hid hT
  clear hT hS
  go_enter Try.func29, Try.ntmps29
  go_wp2_with fail
  refine HT.out.mono ?_
  rintro e w1 ⟨rfl, hk⟩
  have hh : w1.heap[w.heap.size]? = some (.cells #[.int .i64 0, .string ⟨#[]⟩, .int .i64 0, .int .i64 0] 48 (0, 0)) :=
    (hk.block w.heap.size (by simp) (fun h => h)).trans (by show (w.heap.push _)[w.heap.size]? = _; simp)
  have c0 : w1.cell? ⟨w.heap.size, 0, none⟩ = _ := cell_of hh rfl
  have c1 : w1.cell? ⟨w.heap.size, 1, none⟩ = _ := cell_of hh rfl
  have c2 : w1.cell? ⟨w.heap.size, 2, none⟩ = _ := cell_of hh rfl
  have c3 : w1.cell? ⟨w.heap.size, 3, none⟩ = _ := cell_of hh rfl
  have f0 : w1.frozen? ⟨w.heap.size, 0, none⟩ = false := frozen_of hh
  have f1 : w1.frozen? ⟨w.heap.size, 1, none⟩ = false := frozen_of hh
  have f2 : w1.frozen? ⟨w.heap.size, 2, none⟩ = false := frozen_of hh
  have f3 : w1.frozen? ⟨w.heap.size, 3, none⟩ = false := frozen_of hh
  have HH := Lib.hid hh
  clear hh
  go_wp2
  have e1 := heap_set (o := 0) HH.out (.int .i64 n)
  have e2 := heap_set (o := 1) e1 (.string S)
  have e3 := heap_set (o := 2) e2 (.int .i64 0)
  have e4 := heap_set (o := 3) e3 (.int .i64 0)
  have d0 := cell_of (i := 0) e4 rfl
  have d1 := cell_of (i := 1) e4 rfl
  have d2 := cell_of (i := 2) e4 rfl
  have d3 := cell_of (i := 3) e4 rfl
  have hE : encT (tokOf n) = .agg #[.int .i64 n, .string S, .int .i64 0, .int .i64 0] := by rw [HS.out]; rfl
  rw [hE]
  have hkk : Kept (fun _ => False) w ((((w1.setCell ⟨w.heap.size, 0, none⟩ (.int .i64 n)).setCell ⟨w.heap.size, 1, none⟩ (.string S)).setCell ⟨w.heap.size, 2, none⟩ (.int .i64 0)).setCell ⟨w.heap.size, 3, none⟩ (.int .i64 0)) :=
    (((((((Kept.refl (fun _ => False) w).alloc _).trans hk).setCell (fun h => absurd h (Nat.lt_irrefl _)) _).setCell (fun h => absurd h (Nat.lt_irrefl _)) _).setCell (fun h => absurd h (Nat.lt_irrefl _)) _).setCell (fun h => absurd h (Nat.lt_irrefl _)) _)
  clear e1 e2 e3 e4
  generalize ((((w1.setCell ⟨w.heap.size, 0, none⟩ (.int .i64 n)).setCell ⟨w.heap.size, 1, none⟩ (.string S)).setCell ⟨w.heap.size, 2, none⟩ (.int .i64 0)).setCell ⟨w.heap.size, 3, none⟩ (.int .i64 0)) = w2 at d0 d1 d2 d3 hkk ⊢
  refine bodyPost_ret (v := .agg #[.int .i64 n, .string S, .int .i64 0, .int .i64 0]) ?_ rfl ⟨rfl, hkk⟩
  simp at d0 d1 d2 d3
  simp [results, Try.results29, go_sem, d0, d1, d2, d3]

end Go.Proofs.Ytllcklddfcclfaa
