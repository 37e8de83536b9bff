/- Marks, paths, graphs in memory. -/
import Derived.Test.YtncloielmfplpaaFacts5
import Derived.Test.YtncloielmfplpaaGraph5
import Derived.Test.YtncloielmfplpaaLs5
import Derived.Test.YtncloielmfplpaaStkIs
namespace Go.Proofs.Ytncloielmfplpaa
open Go.RowKit
set_option linter.unusedVariables false
set_option linter.unusedSimpArgs false

abbrev LsN := LsIs (α := Nat) 22 3 encN

theorem cellsOf_encN (l : List Nat) : cellsOf encN l = l.map fun (k : Nat) => Value.int .i64 (k : Int) := by
  induction l with
  | nil => rfl
  | cons x l ih =>
    show (encN x).cells.toList ++ cellsOf encN l = _
    rw [ih]
    rfl

theorem cellsOf_encN_one (x : Nat) : cellsOf encN [x] = [.int .i64 (x : Int)] := rfl

theorem oneN (l : List Nat) : ∀ u ∈ cellsOf encN l, u.oneCell' = true := by
  intro u hu
  rw [cellsOf_encN] at hu
  obtain ⟨k, _, rfl⟩ := List.mem_map.1 hu
  rfl

/-- The marks of n places. -/
def marksB (n : Nat) (S : Nat → Bool) : List Value := (List.range n).map fun x => .bool (S x)

theorem marksB_length (n : Nat) (S : Nat → Bool) : (marksB n S).length = n := by simp [marksB]
theorem marksB_get {n x : Nat} (S : Nat → Bool) (hx : x < n) : (marksB n S)[x]? = some (.bool (S x)) := by simp [marksB, hx]
theorem marksB_set {n x : Nat} (S : Nat → Bool) : (marksB n S).set x (.bool true) = marksB n (setB S x) := by
  apply List.ext_getElem (by simp [marksB])
  intro i h1 h2
  simp only [marksB, List.getElem_set, List.getElem_map, List.getElem_range, setB]
  split
  · rename_i e; subst e; simp
  · rename_i e; rw [if_neg (Ne.symm e)]
theorem marksB_false (n : Nat) : marksB n (fun _ => false) = List.replicate n (.bool false) := by simp [marksB, List.map_const']
theorem marksB_congr {n : Nat} {S T : Nat → Bool} (h : ∀ x, x < n → S x = T x) : marksB n S = marksB n T := by
  unfold marksB
  refine List.map_congr_left fun x hx => ?_
  rw [h x (List.mem_range.1 hx)]

theorem um_pos {n : Nat} {S : Nat → Bool} {x : Nat} (hx : x < n) (h : S x = false) : 0 < um n S := by
  have := um_set hx h
  omega

/-- A step of a path. -/
def encP (p : Nat × Nat) : Value := .agg #[.int .i64 (p.1 : Int), .int .i64 (p.2 : Int)]

theorem cellsOf_encP_one (p : Nat × Nat) : cellsOf encP [p] = [.int .i64 (p.1 : Int), .int .i64 (p.2 : Int)] := rfl
theorem cellsOf_encP_length (P : List (Nat × Nat)) : (cellsOf encP P).length = P.length * 2 := cellsOf_length (enc := encP) (sz := 2) (fun _ => rfl) P

theorem cellsOf_encP_last (P : List (Nat × Nat)) (p : Nat × Nat) : (cellsOf encP (P ++ [p]))[P.length * 2]? = some (.int .i64 (p.1 : Int)) ∧ (cellsOf encP (P ++ [p]))[P.length * 2 + 1]? = some (.int .i64 (p.2 : Int)) := by
  rw [cellsOf_append]
  have h := cellsOf_encP_length P
  refine ⟨?_, ?_⟩
  · rw [List.getElem?_append_right (by omega), h, Nat.sub_self]
    rfl
  · rw [List.getElem?_append_right (by omega), h, show P.length * 2 + 1 - P.length * 2 = 1 by omega]
    rfl

theorem cellsOf_encP_set (P : List (Nat × Nat)) (a k k' : Nat) : (cellsOf encP (P ++ [(a, k)])).set (P.length * 2 + 1) (.int .i64 (k' : Int)) = cellsOf encP (P ++ [(a, k')]) := by
  have h := cellsOf_encP_length P
  rw [cellsOf_append, cellsOf_append, List.set_append_right _ _ (by omega), h, show P.length * 2 + 1 - P.length * 2 = 1 by omega]
  rfl

theorem cellsOf_encP_take (P : List (Nat × Nat)) (p : Nat × Nat) : (cellsOf encP (P ++ [p])).take (P.length * 2) = cellsOf encP P := by
  have h := cellsOf_encP_length P
  rw [cellsOf_append, List.take_append_of_le_length (by omega), List.take_of_length_le (by omega)]

end Go.Proofs.Ytncloielmfplpaa
