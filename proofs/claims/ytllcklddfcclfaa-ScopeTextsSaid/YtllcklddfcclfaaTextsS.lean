/- The walk of Texts (Pairs): a list of numbers as texts (tokens). -/
import Derived.Test.YtllcklddfcclfaaSameI
import Derived.Test.YtllcklddfcclfaaDigits
import Derived.Test.YtllcklddfcclfaaArgsI
import Derived.Test.YtllcklddfcclfaaDigits
namespace Go.Proofs.Ytllcklddfcclfaa
open Go.RowKit
set_option linter.unusedVariables false
set_option linter.unusedSimpArgs false

set_option maxRecDepth 100000 in
set_option maxHeartbeats 1000000 in
theorem textsS (v : Value) (xs : List Int) (w : World) (hx : Rd w 1 v xs.length (cellsOf encI xs)) (hr : ∀ x ∈ xs, InR x) (hf : xs.length * 16 ≤ 140737488355328) :
    Calls Try.prog 33 #[v] w fun e w' => ∃ v', e = .returned v' ∧ Fresh w w' 9 1 v' xs.length (cellsOf encS (xs.map textB)) := by
  obtain ⟨_, a, c, rfl, ka1, ka2, ka3, _⟩ := id hx
  unfold maxLen at ka2
  have HX := Lib.hid hx
  have KA := Lib.hid ka3
  have HR := Lib.hid hr
  clear hx ka3 hr
  go_enter Try.func33, Try.ntmps33
  go_wp2
  go_loopw [3, 4] (fun nv i wr => ∃ k : Nat, k ≤ xs.length ∧ i = .int .i64 k ∧ Hid (Own wr 9 1 nv k (cellsOf encS ((xs.take k).map textB)) ∧ Kept (fun _ => False) w wr ∧ ∀ b, nv.ownBlock = some b → w.heap.size ≤ b)) (fun _ i _ => xs.length - (intOf i).toNat)
  case atStart => exact ⟨0, Nat.zero_le _, rfl, Lib.hid ⟨Own.nil _ _ _, Kept.refl _ _, by simp [Value.ownBlock]⟩⟩
  case round =>
    obtain ⟨k, hk, rfl, hH⟩ := hrel
    obtain ⟨h1, h2, h3⟩ := hH.out
    obtain ⟨na, nc, rfl, n1, n2, n3⟩ := h1.shape
    by_cases hlt : k < xs.length
    · cases a with
      | none => exact absurd (KA.out rfl).1 (by omega)
      | some ad =>
        have cx := rdCellI (HX.out.frame h2 (fun _ _ => id)) hlt
        dsimp only at cx
        have hin := HR.out _ (List.getElem_mem hlt)
        obtain ⟨x, hxk⟩ : ∃ x, x = xs[k] := ⟨_, rfl⟩
        rw [← hxk] at cx hin
        have hcall := text_text x wr hin.1 hin.2
        have HC := Lib.hid hcall
        have HXK := Lib.hid hxk
        have H1 := Lib.hid h1
        have H2 := Lib.hid h2
        have H3 := Lib.hid h3
        have HT : Hid (Fits (k + 1) 16) := Lib.hid (fits_of (by omega) (by omega))
        clear hcall hxk h1 h2 h3 hH n3 hin
        go_wp2_with fail
        refine HC.out.mono ?_
        rintro e w1 ⟨rfl, hk1⟩
        have H11 := Lib.hid (H1.out.frame hk1 (fun _ _ => id))
        skip
        go_wp2_with (at_builtin; refine wpList_append slStr (v := .slice na k nc) (vx := .slice (some ⟨w1.heap.size, 0, none⟩) 1 1) (news := (encS (textB x)).cells.toList) (m := 1) rfl _ _ rfl rfl rfl (H11.out.alloc _) (Own.rd (Own.fresh (n := 1) (by rfl) (by decide))) (by simp [encS, Value.cells, Value.oneCell']) HT.out ?_; intro v2 w2 hown2 hk2 hb2 _)
        have q1 : Own w2 9 1 v2 (k + 1) (cellsOf encS ((xs.take (k + 1)).map textB)) := by
          rw [List.take_succ_eq_append_getElem hlt, List.map_append, cellsOf_append, ← HXK.out]
          simp only [List.map_cons, List.map_nil, cellsOf_one]
          exact hown2
        have q2 : Kept (fun _ => False) w w2 := ((H2.out.trans hk1).alloc _).trans' hk2 (fun i hi h => by have := H3.out i h; omega)
        have q3 : ∀ b, v2.ownBlock = some b → w.heap.size ≤ b := fun b h => by
          rcases hb2 b h with h | h
          · exact H3.out b h
          · have := H2.out.size
            have := hk1.size
            simp at h
            omega
        have Q := Lib.hid (And.intro q1 (And.intro q2 q3))
        clear q1 q2 q3 hown2 hk2 hb2
        go_roundw
        case rel => exact ⟨k + 1, by omega, by go_num, Q⟩
        case measure => simp [intOf]; omega
    · obtain rfl : k = xs.length := by omega
      rw [List.take_length] at h1
      have H1 := Lib.hid (show Fresh w wr 9 1 (.slice na xs.length nc) xs.length (cellsOf encS (xs.map textB)) from ⟨h1, h2, h3⟩)
      clear hH h1 h2 h3 n3
      go_wp2
      go_ret
      exact ⟨_, rfl, H1.out⟩

end Go.Proofs.Ytllcklddfcclfaa
