/-
  No cell of these rows narrows 'for every input' (looked for: loops, veiled, ifaces, maps, wideKeys, modest, calm, conditions, laid).
  DERIVED. THE GIVEN ROWS OF THIS SEAT. 5 by the template 'for every input the law returns true; each argument reads behind the call as it read before'; 0 by the template 'total and deterministic' (their statements: YtodklnfdmcadkaaTotals.lean).
  GIVEN WITH THE SEED: the statements are not yours to turn. If you find one false, say at which input.
  Laid BY PROGRAM, IN A SANDBOX (cutbox-rows.mjs): the forced cells as the released guide's own fill.sh prints them over the translation ace533d0788d4729… (all of the seat's roots in one cut). By AI agents, Wed Nov 11 2026. No macro, syntax, notation, axiom, sorry.
-/
import Derived.Test.YtodklnfdmcadkaaChecked
import GoSem.Claim
import GoSem.ClaimJoined
import GoSem.ClaimMapViews
import Derived.JoinedTies
import Derived.KernelRfl
namespace Go.Proofs.Ytodklnfdmcadkaa
/- THE CELL 'sum', in the pinned program and in every row, IS THE sha256 OF THE DUMP (.gsa) THAT YtodklnfdmcadkaaProg.lean LOADS. Nothing in Lean hashes anything: it is a label: what it is worth is what the hold of that sum in a sandbox is worth. -/
noncomputable def Try.pinned : Pinned := { name := "ytodklnfdmcadkaa", sum := "ace533d0788d472911b26b892378297d221e00567f0f48e7669088310a1d8805", checked := Try.checked }
namespace Rows
def none {H : Type} : Left H := { results := [], args := [] }

/-- 'loiterlaw06.UnionApart': WHATEVER THE INPUT: true; the input reads as it did. -/
def unionApartSpec : ChangeSpec := { name := "unionApart", fn := fun _ => fun
  | [d1, d2] => { results := [.lit (.bool true)], args := [d1, d2] }
  | _ => none }
def unionApartRow : OpenClaim := { program := "ytodklnfdmcadkaa", sum := "ace533d0788d472911b26b892378297d221e00567f0f48e7669088310a1d8805", func := "loiter/loiterlaw06.UnionApart", spec := "unionApart", apart := false }
def UnionApartSaid : Prop := unionApartRow.holds Try.pinned (OpenSpec.ofChange unionApartSpec)

/-- ITS FALSE NEIGHBOUR: 'it returns false'. Refute it at one input. -/
def unionApartWrong : ChangeSpec := { name := "unionApart", fn := fun _ => fun
  | [d1, d2] => { results := [.lit (.bool false)], args := [d1, d2] }
  | _ => none }
def UnionApartWrongFalsely : Prop := unionApartRow.holds Try.pinned (OpenSpec.ofChange unionApartWrong)

/-- 'loiterlaw06.UnionClasses': WHATEVER THE INPUT: true; the input reads as it did. -/
def unionClassesSpec : ChangeSpec := { name := "unionClasses", fn := fun _ => fun
  | [d1, d2] => { results := [.lit (.bool true)], args := [d1, d2] }
  | _ => none }
def unionClassesRow : OpenClaim := { program := "ytodklnfdmcadkaa", sum := "ace533d0788d472911b26b892378297d221e00567f0f48e7669088310a1d8805", func := "loiter/loiterlaw06.UnionClasses", spec := "unionClasses", apart := false }
def UnionClassesSaid : Prop := unionClassesRow.holds Try.pinned (OpenSpec.ofChange unionClassesSpec)

/-- ITS FALSE NEIGHBOUR: 'it returns false'. Refute it at one input. -/
def unionClassesWrong : ChangeSpec := { name := "unionClasses", fn := fun _ => fun
  | [d1, d2] => { results := [.lit (.bool false)], args := [d1, d2] }
  | _ => none }
def UnionClassesWrongFalsely : Prop := unionClassesRow.holds Try.pinned (OpenSpec.ofChange unionClassesWrong)

/-- 'loiterlaw06.UnionInts': WHATEVER THE INPUT: true; the input reads as it did. -/
def unionIntsSpec : ChangeSpec := { name := "unionInts", fn := fun _ => fun
  | [d] => { results := [.lit (.bool true)], args := [d] }
  | _ => none }
def unionIntsRow : OpenClaim := { program := "ytodklnfdmcadkaa", sum := "ace533d0788d472911b26b892378297d221e00567f0f48e7669088310a1d8805", func := "loiter/loiterlaw06.UnionInts", spec := "unionInts", apart := false }
def UnionIntsSaid : Prop := unionIntsRow.holds Try.pinned (OpenSpec.ofChange unionIntsSpec)

/-- ITS FALSE NEIGHBOUR: 'it returns false'. Refute it at one input. -/
def unionIntsWrong : ChangeSpec := { name := "unionInts", fn := fun _ => fun
  | [d] => { results := [.lit (.bool false)], args := [d] }
  | _ => none }
def UnionIntsWrongFalsely : Prop := unionIntsRow.holds Try.pinned (OpenSpec.ofChange unionIntsWrong)

/-- 'loiterlaw06.UnionTexts': WHATEVER THE INPUT: true; the input reads as it did. -/
def unionTextsSpec : ChangeSpec := { name := "unionTexts", fn := fun _ => fun
  | [d] => { results := [.lit (.bool true)], args := [d] }
  | _ => none }
def unionTextsRow : OpenClaim := { program := "ytodklnfdmcadkaa", sum := "ace533d0788d472911b26b892378297d221e00567f0f48e7669088310a1d8805", func := "loiter/loiterlaw06.UnionTexts", spec := "unionTexts", apart := false }
def UnionTextsSaid : Prop := unionTextsRow.holds Try.pinned (OpenSpec.ofChange unionTextsSpec)

/-- ITS FALSE NEIGHBOUR: 'it returns false'. Refute it at one input. -/
def unionTextsWrong : ChangeSpec := { name := "unionTexts", fn := fun _ => fun
  | [d] => { results := [.lit (.bool false)], args := [d] }
  | _ => none }
def UnionTextsWrongFalsely : Prop := unionTextsRow.holds Try.pinned (OpenSpec.ofChange unionTextsWrong)

/-- 'loiterlaw06.UnionNil': WHATEVER THE INPUT: true; the input reads as it did. -/
def unionNilSpec : ChangeSpec := { name := "unionNil", fn := fun _ => fun
  | [] => { results := [.lit (.bool true)], args := [] }
  | _ => none }
def unionNilRow : OpenClaim := { program := "ytodklnfdmcadkaa", sum := "ace533d0788d472911b26b892378297d221e00567f0f48e7669088310a1d8805", func := "loiter/loiterlaw06.UnionNil", spec := "unionNil", apart := false }
def UnionNilSaid : Prop := unionNilRow.holds Try.pinned (OpenSpec.ofChange unionNilSpec)

/-- ITS FALSE NEIGHBOUR: 'it returns false'. Refute it at one input. -/
def unionNilWrong : ChangeSpec := { name := "unionNil", fn := fun _ => fun
  | [] => { results := [.lit (.bool false)], args := [] }
  | _ => none }
def UnionNilWrongFalsely : Prop := unionNilRow.holds Try.pinned (OpenSpec.ofChange unionNilWrong)

/- THE SECOND FORM. 'bulk': how many values and letters a reading holds, each counted each time it is reached (what is shared counts as often as it is met; a slice's spare places count too). A statement '..UptoSaid' is the law's where the arguments, and the package variables that the reading takes, are together of bulk at most 1048576: NARROWER than '..Said'. Prove '..Said' where nothing that the law and all that it calls make is longer than what came in: it says more and counts as full. Else prove '..UptoSaid'. A law counts once. -/
mutual
def uptoBulk {H : Type} : DataW H → Nat
  | .lit (.string bytes) => bytes.length + 1
  | .lit _ => 1
  | .nil => 1
  | .ptr d => uptoBulk d + 1
  | .slice elems spare => uptoBulkAll elems + uptoBulkAll spare + 1
  | .agg parts => uptoBulkAll parts + 1
  | .iface _ d => uptoBulk d + 1
  | .map entries => uptoBulkEntries entries + 1
  | .held _ => 1
def uptoBulkAll {H : Type} : List (DataW H) → Nat
  | [] => 0
  | d :: r => uptoBulk d + uptoBulkAll r
def uptoBulkEntries {H : Type} : List (Lit × DataW H) → Nat
  | [] => 0
  | x :: r => uptoBulkEntry x + uptoBulkEntries r
def uptoBulkEntry {H : Type} : Lit × DataW H → Nat
  | (.string bytes, d) => bytes.length + uptoBulk d + 1
  | (_, d) => uptoBulk d + 1
 end
def uptoSmall : (H : Type) → List (DataW H) → Bool := fun _ ds => decide (uptoBulkAll ds ≤ 1048576)
def OpenSpec.upto (s : _root_.Go.ChangeSpec) : _root_.Go.OpenSpec := { _root_.Go.OpenSpec.ofChange s with cond := some uptoSmall }

/-- 'loiterlaw06.UnionApart', WHERE WHAT IT READS IS OF BULK AT MOST 1048576: true; the input reads as it did. -/
def unionApartUptoRow : OpenClaim := { program := "ytodklnfdmcadkaa", sum := "ace533d0788d472911b26b892378297d221e00567f0f48e7669088310a1d8805", func := "loiter/loiterlaw06.UnionApart", spec := "unionApart", apart := false, narrowed := true }
def UnionApartUptoSaid : Prop := unionApartUptoRow.holds Try.pinned (OpenSpec.upto unionApartSpec)

/-- 'loiterlaw06.UnionClasses', WHERE WHAT IT READS IS OF BULK AT MOST 1048576: true; the input reads as it did. -/
def unionClassesUptoRow : OpenClaim := { program := "ytodklnfdmcadkaa", sum := "ace533d0788d472911b26b892378297d221e00567f0f48e7669088310a1d8805", func := "loiter/loiterlaw06.UnionClasses", spec := "unionClasses", apart := false, narrowed := true }
def UnionClassesUptoSaid : Prop := unionClassesUptoRow.holds Try.pinned (OpenSpec.upto unionClassesSpec)

/-- 'loiterlaw06.UnionInts', WHERE WHAT IT READS IS OF BULK AT MOST 1048576: true; the input reads as it did. -/
def unionIntsUptoRow : OpenClaim := { program := "ytodklnfdmcadkaa", sum := "ace533d0788d472911b26b892378297d221e00567f0f48e7669088310a1d8805", func := "loiter/loiterlaw06.UnionInts", spec := "unionInts", apart := false, narrowed := true }
def UnionIntsUptoSaid : Prop := unionIntsUptoRow.holds Try.pinned (OpenSpec.upto unionIntsSpec)

/-- 'loiterlaw06.UnionTexts', WHERE WHAT IT READS IS OF BULK AT MOST 1048576: true; the input reads as it did. -/
def unionTextsUptoRow : OpenClaim := { program := "ytodklnfdmcadkaa", sum := "ace533d0788d472911b26b892378297d221e00567f0f48e7669088310a1d8805", func := "loiter/loiterlaw06.UnionTexts", spec := "unionTexts", apart := false, narrowed := true }
def UnionTextsUptoSaid : Prop := unionTextsUptoRow.holds Try.pinned (OpenSpec.upto unionTextsSpec)

/-- 'loiterlaw06.UnionNil', WHERE WHAT IT READS IS OF BULK AT MOST 1048576: true; the input reads as it did. -/
def unionNilUptoRow : OpenClaim := { program := "ytodklnfdmcadkaa", sum := "ace533d0788d472911b26b892378297d221e00567f0f48e7669088310a1d8805", func := "loiter/loiterlaw06.UnionNil", spec := "unionNil", apart := false, narrowed := true }
def UnionNilUptoSaid : Prop := unionNilUptoRow.holds Try.pinned (OpenSpec.upto unionNilSpec)

end Rows
end Go.Proofs.Ytodklnfdmcadkaa
