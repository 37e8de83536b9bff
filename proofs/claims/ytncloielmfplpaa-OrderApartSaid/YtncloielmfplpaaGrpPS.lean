/- order.Groups' function literal: may this group be told? -/
import Derived.Test.YtncloielmfplpaaCircS
import Derived.Test.YtncloielmfplpaaIdxf5
namespace Go.Proofs.Ytncloielmfplpaa
open Go.RowKit Go.Shelf
set_option linter.unusedVariables false
set_option linter.unusedSimpArgs false

set_option maxRecDepth 100000 in
set_option maxHeartbeats 4000000 in
theorem mayTellS {w : World} {wb tb c d : Nat} {mb : Nat → Option Nat} {WS : Nat → List Nat} {S : Nat → Bool} (hbox : w.heap[wb + 1]? = some (.cells #[.slice (some ⟨wb, 0, none⟩) c c] 69 (0, 0))) (hw : WaitsIs w (.slice (some ⟨wb, 0, none⟩) c c) c mb WS)
    (htx : w.heap[tb + 1]? = some (.cells #[.slice (some ⟨tb, 0, none⟩) c c] 60 (0, 0))) (ht : Own w 4 1 (.slice (some ⟨tb, 0, none⟩) c c) c (marksB c S)) (hd : d < c) (hc : c ≤ 100) :
    Calls Try.prog 39 (#[.int .i64 (d : Int)] ++ #[.pointer (some ⟨tb + 1, 0, none⟩), .pointer (some ⟨wb + 1, 0, none⟩)]) w fun e w' => e = .returned (.bool (!S d && (WS d).isEmpty)) ∧ w = w' := by
  have c1 : w.cell? ⟨wb + 1, 0, none⟩ = some (.slice (some ⟨wb, 0, none⟩) c c) := cell_of hbox rfl
  have c2 : w.cell? ⟨tb + 1, 0, none⟩ = some (.slice (some ⟨tb, 0, none⟩) c c) := cell_of htx rfl
  obtain ⟨g', off', cap', hv, _, _, hcl, _, _⟩ := ht.elt (by omega)
  simp only [Value.slice.injEq, Option.some.injEq, Addr.mk.injEq, and_true, true_and] at hv
  obtain ⟨⟨rfl, rfl⟩, rfl⟩ := hv
  have c3 := hcl d _ (marksB_get S hd)
  rw [Nat.zero_add] at c3
  have c4 := (hw.cell hd).1
  rw [Nat.zero_add] at c4
  have hd2 : (d : Int) < (c : Int) := by omega
  have HM := Lib.hid (fun b h => hw.maps d b hd h)
  have HE := Lib.hid (fun h => hw.empty d hd h)
  generalize S d = s at c3 ⊢
  generalize hwd : WS d = l at HM HE ⊢
  clear hbox hw htx ht hcl hwd hd
  rw [show (#[Value.int .i64 (d : Int)] ++ #[Value.pointer (some ⟨tb + 1, 0, none⟩), .pointer (some ⟨wb + 1, 0, none⟩)] : Array Value) = #[.int .i64 (d : Int), .pointer (some ⟨tb + 1, 0, none⟩), .pointer (some ⟨wb + 1, 0, none⟩)] from rfl]
  cases s with
  | true =>
    go_enter Try.func39, Try.ntmps39
    go_wp2
    go_ret
    exact ⟨rfl, rfl⟩
  | false =>
    cases hmd : mb d with
    | none =>
      rw [hmd] at c4
      have hl := HE.out hmd
      subst hl
      clear hmd
      go_enter Try.func39, Try.ntmps39
      go_wp2
      go_ret
      exact ⟨rfl, rfl⟩
    | some b =>
      rw [hmd] at c4
      have hm := HM.out b hmd
      have hlen := hm.len (P := Try.prog) Try.underlying70 3
      have e1 : (kvs l).length = l.length := by simp [kvs]
      rw [e1] at hlen
      have e2 : l.isEmpty = decide ((l.length : Int) = 0) := by cases l <;> simp <;> omega
      rw [e2]
      generalize l.length = ln at hlen ⊢
      clear hmd hm e1 e2
      go_enter Try.func39, Try.ntmps39
      go_wp2
      go_ret
      exact ⟨rfl, rfl⟩

end Go.Proofs.Ytncloielmfplpaa
