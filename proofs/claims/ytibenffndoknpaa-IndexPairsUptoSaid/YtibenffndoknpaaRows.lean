/-
  No cell of these rows narrows 'for every input' (looked for: loops, veiled, ifaces, maps, wideKeys, modest, calm, conditions, laid).
  DERIVED. THE GIVEN ROWS OF THIS SEAT. 5 by the template 'for every input the law returns true; each argument reads behind the call as it read before'; 0 by the template 'total and deterministic' (their statements: YtibenffndoknpaaTotals.lean).
  GIVEN WITH THE SEED: the statements are not yours to turn. If you find one false, say at which input.
  Laid BY PROGRAM, IN A SANDBOX (cutbox-rows.mjs): the forced cells as the released guide's own fill.sh prints them over the translation 36801f05860a61c6… (all of the seat's roots in one cut). By AI agents, Wed Nov 11 2026. No macro, syntax, notation, axiom, sorry.
-/
import Derived.Test.YtibenffndoknpaaChecked
import GoSem.Claim
import GoSem.ClaimJoined
import GoSem.ClaimMapViews
import Derived.JoinedTies
import Derived.KernelRfl
namespace Go.Proofs.Ytibenffndoknpaa
/- THE CELL 'sum', in the pinned program and in every row, IS THE sha256 OF THE DUMP (.gsa) THAT YtibenffndoknpaaProg.lean LOADS. Nothing in Lean hashes anything: it is a label: what it is worth is what the hold of that sum in a sandbox is worth. -/
noncomputable def Try.pinned : Pinned := { name := "ytibenffndoknpaa", sum := "36801f05860a61c612913e77b4dd453891069a81ac0b11ba00343d92a8246caf", checked := Try.checked }
namespace Rows
def none {H : Type} : Left H := { results := [], args := [] }

/-- 'loiterlaw03.IndexFirsts': WHATEVER THE INPUT: true; the input reads as it did. -/
def indexFirstsSpec : ChangeSpec := { name := "indexFirsts", fn := fun _ => fun
  | [d] => { results := [.lit (.bool true)], args := [d] }
  | _ => none }
def indexFirstsRow : OpenClaim := { program := "ytibenffndoknpaa", sum := "36801f05860a61c612913e77b4dd453891069a81ac0b11ba00343d92a8246caf", func := "loiter/loiterlaw03.IndexFirsts", spec := "indexFirsts", plainKeys := false, apart := false }
def IndexFirstsSaid : Prop := indexFirstsRow.holds Try.pinned (OpenSpec.ofChange indexFirstsSpec)

/-- ITS FALSE NEIGHBOUR: 'it returns false'. Refute it at one input. -/
def indexFirstsWrong : ChangeSpec := { name := "indexFirsts", fn := fun _ => fun
  | [d] => { results := [.lit (.bool false)], args := [d] }
  | _ => none }
def IndexFirstsWrongFalsely : Prop := indexFirstsRow.holds Try.pinned (OpenSpec.ofChange indexFirstsWrong)

/-- 'loiterlaw03.IndexApart': WHATEVER THE INPUT: true; the input reads as it did. -/
def indexApartSpec : ChangeSpec := { name := "indexApart", fn := fun _ => fun
  | [d] => { results := [.lit (.bool true)], args := [d] }
  | _ => none }
def indexApartRow : OpenClaim := { program := "ytibenffndoknpaa", sum := "36801f05860a61c612913e77b4dd453891069a81ac0b11ba00343d92a8246caf", func := "loiter/loiterlaw03.IndexApart", spec := "indexApart", plainKeys := false, apart := false }
def IndexApartSaid : Prop := indexApartRow.holds Try.pinned (OpenSpec.ofChange indexApartSpec)

/-- ITS FALSE NEIGHBOUR: 'it returns false'. Refute it at one input. -/
def indexApartWrong : ChangeSpec := { name := "indexApart", fn := fun _ => fun
  | [d] => { results := [.lit (.bool false)], args := [d] }
  | _ => none }
def IndexApartWrongFalsely : Prop := indexApartRow.holds Try.pinned (OpenSpec.ofChange indexApartWrong)

/-- 'loiterlaw03.IndexInts': WHATEVER THE INPUT: true; the input reads as it did. -/
def indexIntsSpec : ChangeSpec := { name := "indexInts", fn := fun _ => fun
  | [d] => { results := [.lit (.bool true)], args := [d] }
  | _ => none }
def indexIntsRow : OpenClaim := { program := "ytibenffndoknpaa", sum := "36801f05860a61c612913e77b4dd453891069a81ac0b11ba00343d92a8246caf", func := "loiter/loiterlaw03.IndexInts", spec := "indexInts", plainKeys := false, apart := false }
def IndexIntsSaid : Prop := indexIntsRow.holds Try.pinned (OpenSpec.ofChange indexIntsSpec)

/-- ITS FALSE NEIGHBOUR: 'it returns false'. Refute it at one input. -/
def indexIntsWrong : ChangeSpec := { name := "indexInts", fn := fun _ => fun
  | [d] => { results := [.lit (.bool false)], args := [d] }
  | _ => none }
def IndexIntsWrongFalsely : Prop := indexIntsRow.holds Try.pinned (OpenSpec.ofChange indexIntsWrong)

/-- 'loiterlaw03.IndexPairs': WHATEVER THE INPUT: true; the input reads as it did. -/
def indexPairsSpec : ChangeSpec := { name := "indexPairs", fn := fun _ => fun
  | [d] => { results := [.lit (.bool true)], args := [d] }
  | _ => none }
def indexPairsRow : OpenClaim := { program := "ytibenffndoknpaa", sum := "36801f05860a61c612913e77b4dd453891069a81ac0b11ba00343d92a8246caf", func := "loiter/loiterlaw03.IndexPairs", spec := "indexPairs", plainKeys := false, apart := false }
def IndexPairsSaid : Prop := indexPairsRow.holds Try.pinned (OpenSpec.ofChange indexPairsSpec)

/-- ITS FALSE NEIGHBOUR: 'it returns false'. Refute it at one input. -/
def indexPairsWrong : ChangeSpec := { name := "indexPairs", fn := fun _ => fun
  | [d] => { results := [.lit (.bool false)], args := [d] }
  | _ => none }
def IndexPairsWrongFalsely : Prop := indexPairsRow.holds Try.pinned (OpenSpec.ofChange indexPairsWrong)

/-- 'loiterlaw03.IndexNil': WHATEVER THE INPUT: true; the input reads as it did. -/
def indexNilSpec : ChangeSpec := { name := "indexNil", fn := fun _ => fun
  | [] => { results := [.lit (.bool true)], args := [] }
  | _ => none }
def indexNilRow : OpenClaim := { program := "ytibenffndoknpaa", sum := "36801f05860a61c612913e77b4dd453891069a81ac0b11ba00343d92a8246caf", func := "loiter/loiterlaw03.IndexNil", spec := "indexNil", plainKeys := false, apart := false }
def IndexNilSaid : Prop := indexNilRow.holds Try.pinned (OpenSpec.ofChange indexNilSpec)

/-- ITS FALSE NEIGHBOUR: 'it returns false'. Refute it at one input. -/
def indexNilWrong : ChangeSpec := { name := "indexNil", fn := fun _ => fun
  | [] => { results := [.lit (.bool false)], args := [] }
  | _ => none }
def IndexNilWrongFalsely : Prop := indexNilRow.holds Try.pinned (OpenSpec.ofChange indexNilWrong)

/- THE SECOND FORM. 'bulk': how many values and letters a reading holds, each counted each time it is reached (what is shared counts as often as it is met; a slice's spare places count too). A statement '..UptoSaid' is the law's where the arguments, and the package variables that the reading takes, are together of bulk at most 1048576: NARROWER than '..Said'. Prove '..Said' where nothing that the law and all that it calls make is longer than what came in: it says more and counts as full. Else prove '..UptoSaid'. A law counts once. -/
mutual
def uptoBulk {H : Type} : DataW H → Nat
  | .lit (.string bytes) => bytes.length + 1
  | .lit _ => 1
  | .nil => 1
  | .ptr d => uptoBulk d + 1
  | .slice elems spare => uptoBulkAll elems + uptoBulkAll spare + 1
  | .agg parts => uptoBulkAll parts + 1
  | .iface _ d => uptoBulk d + 1
  | .map entries => uptoBulkEntries entries + 1
  | .held _ => 1
def uptoBulkAll {H : Type} : List (DataW H) → Nat
  | [] => 0
  | d :: r => uptoBulk d + uptoBulkAll r
def uptoBulkEntries {H : Type} : List (Lit × DataW H) → Nat
  | [] => 0
  | x :: r => uptoBulkEntry x + uptoBulkEntries r
def uptoBulkEntry {H : Type} : Lit × DataW H → Nat
  | (.string bytes, d) => bytes.length + uptoBulk d + 1
  | (_, d) => uptoBulk d + 1
 end
def uptoSmall : (H : Type) → List (DataW H) → Bool := fun _ ds => decide (uptoBulkAll ds ≤ 1048576)
def OpenSpec.upto (s : _root_.Go.ChangeSpec) : _root_.Go.OpenSpec := { _root_.Go.OpenSpec.ofChange s with cond := some uptoSmall }

/-- 'loiterlaw03.IndexFirsts', WHERE WHAT IT READS IS OF BULK AT MOST 1048576: true; the input reads as it did. -/
def indexFirstsUptoRow : OpenClaim := { program := "ytibenffndoknpaa", sum := "36801f05860a61c612913e77b4dd453891069a81ac0b11ba00343d92a8246caf", func := "loiter/loiterlaw03.IndexFirsts", spec := "indexFirsts", plainKeys := false, apart := false, narrowed := true }
def IndexFirstsUptoSaid : Prop := indexFirstsUptoRow.holds Try.pinned (OpenSpec.upto indexFirstsSpec)

/-- 'loiterlaw03.IndexApart', WHERE WHAT IT READS IS OF BULK AT MOST 1048576: true; the input reads as it did. -/
def indexApartUptoRow : OpenClaim := { program := "ytibenffndoknpaa", sum := "36801f05860a61c612913e77b4dd453891069a81ac0b11ba00343d92a8246caf", func := "loiter/loiterlaw03.IndexApart", spec := "indexApart", plainKeys := false, apart := false, narrowed := true }
def IndexApartUptoSaid : Prop := indexApartUptoRow.holds Try.pinned (OpenSpec.upto indexApartSpec)

/-- 'loiterlaw03.IndexInts', WHERE WHAT IT READS IS OF BULK AT MOST 1048576: true; the input reads as it did. -/
def indexIntsUptoRow : OpenClaim := { program := "ytibenffndoknpaa", sum := "36801f05860a61c612913e77b4dd453891069a81ac0b11ba00343d92a8246caf", func := "loiter/loiterlaw03.IndexInts", spec := "indexInts", plainKeys := false, apart := false, narrowed := true }
def IndexIntsUptoSaid : Prop := indexIntsUptoRow.holds Try.pinned (OpenSpec.upto indexIntsSpec)

/-- 'loiterlaw03.IndexPairs', WHERE WHAT IT READS IS OF BULK AT MOST 1048576: true; the input reads as it did. -/
def indexPairsUptoRow : OpenClaim := { program := "ytibenffndoknpaa", sum := "36801f05860a61c612913e77b4dd453891069a81ac0b11ba00343d92a8246caf", func := "loiter/loiterlaw03.IndexPairs", spec := "indexPairs", plainKeys := false, apart := false, narrowed := true }
def IndexPairsUptoSaid : Prop := indexPairsUptoRow.holds Try.pinned (OpenSpec.upto indexPairsSpec)

/-- 'loiterlaw03.IndexNil', WHERE WHAT IT READS IS OF BULK AT MOST 1048576: true; the input reads as it did. -/
def indexNilUptoRow : OpenClaim := { program := "ytibenffndoknpaa", sum := "36801f05860a61c612913e77b4dd453891069a81ac0b11ba00343d92a8246caf", func := "loiter/loiterlaw03.IndexNil", spec := "indexNil", plainKeys := false, apart := false, narrowed := true }
def IndexNilUptoSaid : Prop := indexNilUptoRow.holds Try.pinned (OpenSpec.upto indexNilSpec)

end Rows
end Go.Proofs.Ytibenffndoknpaa
