/-
  No cell of these rows narrows 'for every input' (looked for: loops, veiled, ifaces, maps, wideKeys, modest, calm, conditions, laid).
  DERIVED. THE GIVEN ROWS OF THIS SEAT. 5 by the template 'for every input the law returns true; each argument reads behind the call as it read before'; 0 by the template 'total and deterministic' (their statements: YtncloielmfplpaaTotals.lean).
  GIVEN WITH THE SEED: the statements are not yours to turn. If you find one false, say at which input.
  Laid BY PROGRAM, IN A SANDBOX (cutbox-rows.mjs): the forced cells as the released guide's own fill.sh prints them over the translation bcb303d70c87c5c9… (all of the seat's roots in one cut). By AI agents, Wed Nov 11 2026. No macro, syntax, notation, axiom, sorry.
-/
import Derived.Test.YtncloielmfplpaaChecked
import GoSem.Claim
import GoSem.ClaimJoined
import GoSem.ClaimMapViews
import Derived.JoinedTies
import Derived.KernelRfl
namespace Go.Proofs.Ytncloielmfplpaa
/- THE CELL 'sum', in the pinned program and in every row, IS THE sha256 OF THE DUMP (.gsa) THAT YtncloielmfplpaaProg.lean LOADS. Nothing in Lean hashes anything: it is a label: what it is worth is what the hold of that sum in a sandbox is worth. -/
noncomputable def Try.pinned : Pinned := { name := "ytncloielmfplpaa", sum := "bcb303d70c87c5c9e93aff68c004aceb0223a34367534e4ae96836e40c4d02ed", checked := Try.checked }
namespace Rows
def none {H : Type} : Left H := { results := [], args := [] }

/-- 'loiterlaw05.OrderReach': WHATEVER THE INPUT: true; the input reads as it did. -/
def orderReachSpec : ChangeSpec := { name := "orderReach", fn := fun _ => fun
  | [d1, d2, d3] => { results := [.lit (.bool true)], args := [d1, d2, d3] }
  | _ => none }
def orderReachRow : OpenClaim := { program := "ytncloielmfplpaa", sum := "bcb303d70c87c5c9e93aff68c004aceb0223a34367534e4ae96836e40c4d02ed", func := "loiter/loiterlaw05.OrderReach", spec := "orderReach", unfollowed := true, recurses := true, apart := false }
def OrderReachSaid : Prop := orderReachRow.holds Try.pinned (OpenSpec.ofChange orderReachSpec)

/-- ITS FALSE NEIGHBOUR: 'it returns false'. Refute it at one input. -/
def orderReachWrong : ChangeSpec := { name := "orderReach", fn := fun _ => fun
  | [d1, d2, d3] => { results := [.lit (.bool false)], args := [d1, d2, d3] }
  | _ => none }
def OrderReachWrongFalsely : Prop := orderReachRow.holds Try.pinned (OpenSpec.ofChange orderReachWrong)

/-- 'loiterlaw05.OrderApart': WHATEVER THE INPUT: true; the input reads as it did. -/
def orderApartSpec : ChangeSpec := { name := "orderApart", fn := fun _ => fun
  | [d1, d2, d3] => { results := [.lit (.bool true)], args := [d1, d2, d3] }
  | _ => none }
def orderApartRow : OpenClaim := { program := "ytncloielmfplpaa", sum := "bcb303d70c87c5c9e93aff68c004aceb0223a34367534e4ae96836e40c4d02ed", func := "loiter/loiterlaw05.OrderApart", spec := "orderApart", unfollowed := true, recurses := true, apart := false }
def OrderApartSaid : Prop := orderApartRow.holds Try.pinned (OpenSpec.ofChange orderApartSpec)

/-- ITS FALSE NEIGHBOUR: 'it returns false'. Refute it at one input. -/
def orderApartWrong : ChangeSpec := { name := "orderApart", fn := fun _ => fun
  | [d1, d2, d3] => { results := [.lit (.bool false)], args := [d1, d2, d3] }
  | _ => none }
def OrderApartWrongFalsely : Prop := orderApartRow.holds Try.pinned (OpenSpec.ofChange orderApartWrong)

/-- 'loiterlaw05.OrderInts': WHATEVER THE INPUT: true; the input reads as it did. -/
def orderIntsSpec : ChangeSpec := { name := "orderInts", fn := fun _ => fun
  | [d1, d2, d3] => { results := [.lit (.bool true)], args := [d1, d2, d3] }
  | _ => none }
def orderIntsRow : OpenClaim := { program := "ytncloielmfplpaa", sum := "bcb303d70c87c5c9e93aff68c004aceb0223a34367534e4ae96836e40c4d02ed", func := "loiter/loiterlaw05.OrderInts", spec := "orderInts", unfollowed := true, recurses := true, apart := false }
def OrderIntsSaid : Prop := orderIntsRow.holds Try.pinned (OpenSpec.ofChange orderIntsSpec)

/-- ITS FALSE NEIGHBOUR: 'it returns false'. Refute it at one input. -/
def orderIntsWrong : ChangeSpec := { name := "orderInts", fn := fun _ => fun
  | [d1, d2, d3] => { results := [.lit (.bool false)], args := [d1, d2, d3] }
  | _ => none }
def OrderIntsWrongFalsely : Prop := orderIntsRow.holds Try.pinned (OpenSpec.ofChange orderIntsWrong)

/-- 'loiterlaw05.OrderTexts': WHATEVER THE INPUT: true; the input reads as it did. -/
def orderTextsSpec : ChangeSpec := { name := "orderTexts", fn := fun _ => fun
  | [d1, d2, d3] => { results := [.lit (.bool true)], args := [d1, d2, d3] }
  | _ => none }
def orderTextsRow : OpenClaim := { program := "ytncloielmfplpaa", sum := "bcb303d70c87c5c9e93aff68c004aceb0223a34367534e4ae96836e40c4d02ed", func := "loiter/loiterlaw05.OrderTexts", spec := "orderTexts", unfollowed := true, recurses := true, apart := false }
def OrderTextsSaid : Prop := orderTextsRow.holds Try.pinned (OpenSpec.ofChange orderTextsSpec)

/-- ITS FALSE NEIGHBOUR: 'it returns false'. Refute it at one input. -/
def orderTextsWrong : ChangeSpec := { name := "orderTexts", fn := fun _ => fun
  | [d1, d2, d3] => { results := [.lit (.bool false)], args := [d1, d2, d3] }
  | _ => none }
def OrderTextsWrongFalsely : Prop := orderTextsRow.holds Try.pinned (OpenSpec.ofChange orderTextsWrong)

/-- 'loiterlaw05.OrderParts': WHATEVER THE INPUT: true; the input reads as it did. -/
def orderPartsSpec : ChangeSpec := { name := "orderParts", fn := fun _ => fun
  | [d1, d2] => { results := [.lit (.bool true)], args := [d1, d2] }
  | _ => none }
def orderPartsRow : OpenClaim := { program := "ytncloielmfplpaa", sum := "bcb303d70c87c5c9e93aff68c004aceb0223a34367534e4ae96836e40c4d02ed", func := "loiter/loiterlaw05.OrderParts", spec := "orderParts", unfollowed := true, recurses := true, apart := false }
def OrderPartsSaid : Prop := orderPartsRow.holds Try.pinned (OpenSpec.ofChange orderPartsSpec)

/-- ITS FALSE NEIGHBOUR: 'it returns false'. Refute it at one input. -/
def orderPartsWrong : ChangeSpec := { name := "orderParts", fn := fun _ => fun
  | [d1, d2] => { results := [.lit (.bool false)], args := [d1, d2] }
  | _ => none }
def OrderPartsWrongFalsely : Prop := orderPartsRow.holds Try.pinned (OpenSpec.ofChange orderPartsWrong)

/- THE SECOND FORM. 'bulk': how many values and letters a reading holds, each counted each time it is reached (what is shared counts as often as it is met; a slice's spare places count too). A statement '..UptoSaid' is the law's where the arguments, and the package variables that the reading takes, are together of bulk at most 1048576: NARROWER than '..Said'. Prove '..Said' where nothing that the law and all that it calls make is longer than what came in: it says more and counts as full. Else prove '..UptoSaid'. A law counts once. -/
mutual
def uptoBulk {H : Type} : DataW H → Nat
  | .lit (.string bytes) => bytes.length + 1
  | .lit _ => 1
  | .nil => 1
  | .ptr d => uptoBulk d + 1
  | .slice elems spare => uptoBulkAll elems + uptoBulkAll spare + 1
  | .agg parts => uptoBulkAll parts + 1
  | .iface _ d => uptoBulk d + 1
  | .map entries => uptoBulkEntries entries + 1
  | .held _ => 1
def uptoBulkAll {H : Type} : List (DataW H) → Nat
  | [] => 0
  | d :: r => uptoBulk d + uptoBulkAll r
def uptoBulkEntries {H : Type} : List (Lit × DataW H) → Nat
  | [] => 0
  | x :: r => uptoBulkEntry x + uptoBulkEntries r
def uptoBulkEntry {H : Type} : Lit × DataW H → Nat
  | (.string bytes, d) => bytes.length + uptoBulk d + 1
  | (_, d) => uptoBulk d + 1
 end
def uptoSmall : (H : Type) → List (DataW H) → Bool := fun _ ds => decide (uptoBulkAll ds ≤ 1048576)
def OpenSpec.upto (s : _root_.Go.ChangeSpec) : _root_.Go.OpenSpec := { _root_.Go.OpenSpec.ofChange s with cond := some uptoSmall }

/-- 'loiterlaw05.OrderReach', WHERE WHAT IT READS IS OF BULK AT MOST 1048576: true; the input reads as it did. -/
def orderReachUptoRow : OpenClaim := { program := "ytncloielmfplpaa", sum := "bcb303d70c87c5c9e93aff68c004aceb0223a34367534e4ae96836e40c4d02ed", func := "loiter/loiterlaw05.OrderReach", spec := "orderReach", unfollowed := true, recurses := true, apart := false, narrowed := true }
def OrderReachUptoSaid : Prop := orderReachUptoRow.holds Try.pinned (OpenSpec.upto orderReachSpec)

/-- 'loiterlaw05.OrderApart', WHERE WHAT IT READS IS OF BULK AT MOST 1048576: true; the input reads as it did. -/
def orderApartUptoRow : OpenClaim := { program := "ytncloielmfplpaa", sum := "bcb303d70c87c5c9e93aff68c004aceb0223a34367534e4ae96836e40c4d02ed", func := "loiter/loiterlaw05.OrderApart", spec := "orderApart", unfollowed := true, recurses := true, apart := false, narrowed := true }
def OrderApartUptoSaid : Prop := orderApartUptoRow.holds Try.pinned (OpenSpec.upto orderApartSpec)

/-- 'loiterlaw05.OrderInts', WHERE WHAT IT READS IS OF BULK AT MOST 1048576: true; the input reads as it did. -/
def orderIntsUptoRow : OpenClaim := { program := "ytncloielmfplpaa", sum := "bcb303d70c87c5c9e93aff68c004aceb0223a34367534e4ae96836e40c4d02ed", func := "loiter/loiterlaw05.OrderInts", spec := "orderInts", unfollowed := true, recurses := true, apart := false, narrowed := true }
def OrderIntsUptoSaid : Prop := orderIntsUptoRow.holds Try.pinned (OpenSpec.upto orderIntsSpec)

/-- 'loiterlaw05.OrderTexts', WHERE WHAT IT READS IS OF BULK AT MOST 1048576: true; the input reads as it did. -/
def orderTextsUptoRow : OpenClaim := { program := "ytncloielmfplpaa", sum := "bcb303d70c87c5c9e93aff68c004aceb0223a34367534e4ae96836e40c4d02ed", func := "loiter/loiterlaw05.OrderTexts", spec := "orderTexts", unfollowed := true, recurses := true, apart := false, narrowed := true }
def OrderTextsUptoSaid : Prop := orderTextsUptoRow.holds Try.pinned (OpenSpec.upto orderTextsSpec)

/-- 'loiterlaw05.OrderParts', WHERE WHAT IT READS IS OF BULK AT MOST 1048576: true; the input reads as it did. -/
def orderPartsUptoRow : OpenClaim := { program := "ytncloielmfplpaa", sum := "bcb303d70c87c5c9e93aff68c004aceb0223a34367534e4ae96836e40c4d02ed", func := "loiter/loiterlaw05.OrderParts", spec := "orderParts", unfollowed := true, recurses := true, apart := false, narrowed := true }
def OrderPartsUptoSaid : Prop := orderPartsUptoRow.holds Try.pinned (OpenSpec.upto orderPartsSpec)

end Rows
end Go.Proofs.Ytncloielmfplpaa
