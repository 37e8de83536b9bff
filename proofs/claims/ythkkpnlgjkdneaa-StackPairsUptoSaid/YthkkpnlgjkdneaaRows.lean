/-
  No cell of these rows narrows 'for every input' (looked for: loops, veiled, ifaces, maps, wideKeys, modest, calm, conditions, laid).
  DERIVED. THE GIVEN ROWS OF THIS SEAT. 6 by the template 'for every input the law returns true; each argument reads behind the call as it read before'; 0 by the template 'total and deterministic' (their statements: YthkkpnlgjkdneaaTotals.lean).
  GIVEN WITH THE SEED: the statements are not yours to turn. If you find one false, say at which input.
  Laid BY PROGRAM, IN A SANDBOX (cutbox-rows.mjs): the forced cells as the released guide's own fill.sh prints them over the translation d437ae7aad905f04… (all of the seat's roots in one cut). By AI agents, Wed Nov 11 2026. No macro, syntax, notation, axiom, sorry.
-/
import Derived.Test.YthkkpnlgjkdneaaChecked
import GoSem.Claim
import GoSem.ClaimJoined
import GoSem.ClaimMapViews
import Derived.JoinedTies
import Derived.KernelRfl
namespace Go.Proofs.Ythkkpnlgjkdneaa
/- THE CELL 'sum', in the pinned program and in every row, IS THE sha256 OF THE DUMP (.gsa) THAT YthkkpnlgjkdneaaProg.lean LOADS. Nothing in Lean hashes anything: it is a label: what it is worth is what the hold of that sum in a sandbox is worth. -/
noncomputable def Try.pinned : Pinned := { name := "ythkkpnlgjkdneaa", sum := "d437ae7aad905f040fdaf31cd8f3c72699a74d6a2607184c90ce437f23a27c4d", checked := Try.checked }
namespace Rows
def none {H : Type} : Left H := { results := [], args := [] }

/-- 'loiterlaw01.StackApart': WHATEVER THE INPUT: true; the input reads as it did. -/
def stackApartSpec : ChangeSpec := { name := "stackApart", fn := fun _ => fun
  | [d1, d2] => { results := [.lit (.bool true)], args := [d1, d2] }
  | _ => none }
def stackApartRow : OpenClaim := { program := "ythkkpnlgjkdneaa", sum := "d437ae7aad905f040fdaf31cd8f3c72699a74d6a2607184c90ce437f23a27c4d", func := "loiter/loiterlaw01.StackApart", spec := "stackApart", apart := false }
def StackApartSaid : Prop := stackApartRow.holds Try.pinned (OpenSpec.ofChange stackApartSpec)

/-- ITS FALSE NEIGHBOUR: 'it returns false'. Refute it at one input. -/
def stackApartWrong : ChangeSpec := { name := "stackApart", fn := fun _ => fun
  | [d1, d2] => { results := [.lit (.bool false)], args := [d1, d2] }
  | _ => none }
def StackApartWrongFalsely : Prop := stackApartRow.holds Try.pinned (OpenSpec.ofChange stackApartWrong)

/-- 'loiterlaw01.StackBack': WHATEVER THE INPUT: true; the input reads as it did. -/
def stackBackSpec : ChangeSpec := { name := "stackBack", fn := fun _ => fun
  | [d1, d2, d3] => { results := [.lit (.bool true)], args := [d1, d2, d3] }
  | _ => none }
def stackBackRow : OpenClaim := { program := "ythkkpnlgjkdneaa", sum := "d437ae7aad905f040fdaf31cd8f3c72699a74d6a2607184c90ce437f23a27c4d", func := "loiter/loiterlaw01.StackBack", spec := "stackBack", apart := false }
def StackBackSaid : Prop := stackBackRow.holds Try.pinned (OpenSpec.ofChange stackBackSpec)

/-- ITS FALSE NEIGHBOUR: 'it returns false'. Refute it at one input. -/
def stackBackWrong : ChangeSpec := { name := "stackBack", fn := fun _ => fun
  | [d1, d2, d3] => { results := [.lit (.bool false)], args := [d1, d2, d3] }
  | _ => none }
def StackBackWrongFalsely : Prop := stackBackRow.holds Try.pinned (OpenSpec.ofChange stackBackWrong)

/-- 'loiterlaw01.StackInts': WHATEVER THE INPUT: true; the input reads as it did. -/
def stackIntsSpec : ChangeSpec := { name := "stackInts", fn := fun _ => fun
  | [d1, d2] => { results := [.lit (.bool true)], args := [d1, d2] }
  | _ => none }
def stackIntsRow : OpenClaim := { program := "ythkkpnlgjkdneaa", sum := "d437ae7aad905f040fdaf31cd8f3c72699a74d6a2607184c90ce437f23a27c4d", func := "loiter/loiterlaw01.StackInts", spec := "stackInts", apart := false }
def StackIntsSaid : Prop := stackIntsRow.holds Try.pinned (OpenSpec.ofChange stackIntsSpec)

/-- ITS FALSE NEIGHBOUR: 'it returns false'. Refute it at one input. -/
def stackIntsWrong : ChangeSpec := { name := "stackInts", fn := fun _ => fun
  | [d1, d2] => { results := [.lit (.bool false)], args := [d1, d2] }
  | _ => none }
def StackIntsWrongFalsely : Prop := stackIntsRow.holds Try.pinned (OpenSpec.ofChange stackIntsWrong)

/-- 'loiterlaw01.StackTexts': WHATEVER THE INPUT: true; the input reads as it did. -/
def stackTextsSpec : ChangeSpec := { name := "stackTexts", fn := fun _ => fun
  | [d1, d2] => { results := [.lit (.bool true)], args := [d1, d2] }
  | _ => none }
def stackTextsRow : OpenClaim := { program := "ythkkpnlgjkdneaa", sum := "d437ae7aad905f040fdaf31cd8f3c72699a74d6a2607184c90ce437f23a27c4d", func := "loiter/loiterlaw01.StackTexts", spec := "stackTexts", apart := false }
def StackTextsSaid : Prop := stackTextsRow.holds Try.pinned (OpenSpec.ofChange stackTextsSpec)

/-- ITS FALSE NEIGHBOUR: 'it returns false'. Refute it at one input. -/
def stackTextsWrong : ChangeSpec := { name := "stackTexts", fn := fun _ => fun
  | [d1, d2] => { results := [.lit (.bool false)], args := [d1, d2] }
  | _ => none }
def StackTextsWrongFalsely : Prop := stackTextsRow.holds Try.pinned (OpenSpec.ofChange stackTextsWrong)

/-- 'loiterlaw01.StackPairs': WHATEVER THE INPUT: true; the input reads as it did. -/
def stackPairsSpec : ChangeSpec := { name := "stackPairs", fn := fun _ => fun
  | [d1, d2] => { results := [.lit (.bool true)], args := [d1, d2] }
  | _ => none }
def stackPairsRow : OpenClaim := { program := "ythkkpnlgjkdneaa", sum := "d437ae7aad905f040fdaf31cd8f3c72699a74d6a2607184c90ce437f23a27c4d", func := "loiter/loiterlaw01.StackPairs", spec := "stackPairs", apart := false }
def StackPairsSaid : Prop := stackPairsRow.holds Try.pinned (OpenSpec.ofChange stackPairsSpec)

/-- ITS FALSE NEIGHBOUR: 'it returns false'. Refute it at one input. -/
def stackPairsWrong : ChangeSpec := { name := "stackPairs", fn := fun _ => fun
  | [d1, d2] => { results := [.lit (.bool false)], args := [d1, d2] }
  | _ => none }
def StackPairsWrongFalsely : Prop := stackPairsRow.holds Try.pinned (OpenSpec.ofChange stackPairsWrong)

/-- 'loiterlaw01.StackNil': WHATEVER THE INPUT: true; the input reads as it did. -/
def stackNilSpec : ChangeSpec := { name := "stackNil", fn := fun _ => fun
  | [] => { results := [.lit (.bool true)], args := [] }
  | _ => none }
def stackNilRow : OpenClaim := { program := "ythkkpnlgjkdneaa", sum := "d437ae7aad905f040fdaf31cd8f3c72699a74d6a2607184c90ce437f23a27c4d", func := "loiter/loiterlaw01.StackNil", spec := "stackNil", apart := false }
def StackNilSaid : Prop := stackNilRow.holds Try.pinned (OpenSpec.ofChange stackNilSpec)

/-- ITS FALSE NEIGHBOUR: 'it returns false'. Refute it at one input. -/
def stackNilWrong : ChangeSpec := { name := "stackNil", fn := fun _ => fun
  | [] => { results := [.lit (.bool false)], args := [] }
  | _ => none }
def StackNilWrongFalsely : Prop := stackNilRow.holds Try.pinned (OpenSpec.ofChange stackNilWrong)

/- THE SECOND FORM. 'bulk': how many values and letters a reading holds, each counted each time it is reached (what is shared counts as often as it is met; a slice's spare places count too). A statement '..UptoSaid' is the law's where the arguments, and the package variables that the reading takes, are together of bulk at most 1048576: NARROWER than '..Said'. Prove '..Said' where nothing that the law and all that it calls make is longer than what came in: it says more and counts as full. Else prove '..UptoSaid'. A law counts once. -/
mutual
def uptoBulk {H : Type} : DataW H → Nat
  | .lit (.string bytes) => bytes.length + 1
  | .lit _ => 1
  | .nil => 1
  | .ptr d => uptoBulk d + 1
  | .slice elems spare => uptoBulkAll elems + uptoBulkAll spare + 1
  | .agg parts => uptoBulkAll parts + 1
  | .iface _ d => uptoBulk d + 1
  | .map entries => uptoBulkEntries entries + 1
  | .held _ => 1
def uptoBulkAll {H : Type} : List (DataW H) → Nat
  | [] => 0
  | d :: r => uptoBulk d + uptoBulkAll r
def uptoBulkEntries {H : Type} : List (Lit × DataW H) → Nat
  | [] => 0
  | x :: r => uptoBulkEntry x + uptoBulkEntries r
def uptoBulkEntry {H : Type} : Lit × DataW H → Nat
  | (.string bytes, d) => bytes.length + uptoBulk d + 1
  | (_, d) => uptoBulk d + 1
 end
def uptoSmall : (H : Type) → List (DataW H) → Bool := fun _ ds => decide (uptoBulkAll ds ≤ 1048576)
def OpenSpec.upto (s : _root_.Go.ChangeSpec) : _root_.Go.OpenSpec := { _root_.Go.OpenSpec.ofChange s with cond := some uptoSmall }

/-- 'loiterlaw01.StackApart', WHERE WHAT IT READS IS OF BULK AT MOST 1048576: true; the input reads as it did. -/
def stackApartUptoRow : OpenClaim := { program := "ythkkpnlgjkdneaa", sum := "d437ae7aad905f040fdaf31cd8f3c72699a74d6a2607184c90ce437f23a27c4d", func := "loiter/loiterlaw01.StackApart", spec := "stackApart", apart := false, narrowed := true }
def StackApartUptoSaid : Prop := stackApartUptoRow.holds Try.pinned (OpenSpec.upto stackApartSpec)

/-- 'loiterlaw01.StackBack', WHERE WHAT IT READS IS OF BULK AT MOST 1048576: true; the input reads as it did. -/
def stackBackUptoRow : OpenClaim := { program := "ythkkpnlgjkdneaa", sum := "d437ae7aad905f040fdaf31cd8f3c72699a74d6a2607184c90ce437f23a27c4d", func := "loiter/loiterlaw01.StackBack", spec := "stackBack", apart := false, narrowed := true }
def StackBackUptoSaid : Prop := stackBackUptoRow.holds Try.pinned (OpenSpec.upto stackBackSpec)

/-- 'loiterlaw01.StackInts', WHERE WHAT IT READS IS OF BULK AT MOST 1048576: true; the input reads as it did. -/
def stackIntsUptoRow : OpenClaim := { program := "ythkkpnlgjkdneaa", sum := "d437ae7aad905f040fdaf31cd8f3c72699a74d6a2607184c90ce437f23a27c4d", func := "loiter/loiterlaw01.StackInts", spec := "stackInts", apart := false, narrowed := true }
def StackIntsUptoSaid : Prop := stackIntsUptoRow.holds Try.pinned (OpenSpec.upto stackIntsSpec)

/-- 'loiterlaw01.StackTexts', WHERE WHAT IT READS IS OF BULK AT MOST 1048576: true; the input reads as it did. -/
def stackTextsUptoRow : OpenClaim := { program := "ythkkpnlgjkdneaa", sum := "d437ae7aad905f040fdaf31cd8f3c72699a74d6a2607184c90ce437f23a27c4d", func := "loiter/loiterlaw01.StackTexts", spec := "stackTexts", apart := false, narrowed := true }
def StackTextsUptoSaid : Prop := stackTextsUptoRow.holds Try.pinned (OpenSpec.upto stackTextsSpec)

/-- 'loiterlaw01.StackPairs', WHERE WHAT IT READS IS OF BULK AT MOST 1048576: true; the input reads as it did. -/
def stackPairsUptoRow : OpenClaim := { program := "ythkkpnlgjkdneaa", sum := "d437ae7aad905f040fdaf31cd8f3c72699a74d6a2607184c90ce437f23a27c4d", func := "loiter/loiterlaw01.StackPairs", spec := "stackPairs", apart := false, narrowed := true }
def StackPairsUptoSaid : Prop := stackPairsUptoRow.holds Try.pinned (OpenSpec.upto stackPairsSpec)

/-- 'loiterlaw01.StackNil', WHERE WHAT IT READS IS OF BULK AT MOST 1048576: true; the input reads as it did. -/
def stackNilUptoRow : OpenClaim := { program := "ythkkpnlgjkdneaa", sum := "d437ae7aad905f040fdaf31cd8f3c72699a74d6a2607184c90ce437f23a27c4d", func := "loiter/loiterlaw01.StackNil", spec := "stackNil", apart := false, narrowed := true }
def StackNilUptoSaid : Prop := stackNilUptoRow.holds Try.pinned (OpenSpec.upto stackNilSpec)

end Rows
end Go.Proofs.Ythkkpnlgjkdneaa
