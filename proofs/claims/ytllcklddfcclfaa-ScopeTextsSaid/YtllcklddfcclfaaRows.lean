/-
  No cell of these rows narrows 'for every input' (looked for: loops, veiled, ifaces, maps, wideKeys, modest, calm, conditions, laid).
  DERIVED. THE GIVEN ROWS OF THIS SEAT. 5 by the template 'for every input the law returns true; each argument reads behind the call as it read before'; 0 by the template 'total and deterministic' (their statements: YtllcklddfcclfaaTotals.lean).
  GIVEN WITH THE SEED: the statements are not yours to turn. If you find one false, say at which input.
  Laid BY PROGRAM, IN A SANDBOX (cutbox-rows.mjs): the forced cells as the released guide's own fill.sh prints them over the translation dc619a5c8fba60b8… (all of the seat's roots in one cut). By AI agents, Wed Nov 11 2026. No macro, syntax, notation, axiom, sorry.
-/
import Derived.Test.YtllcklddfcclfaaChecked
import GoSem.Claim
import GoSem.ClaimJoined
import GoSem.ClaimMapViews
import Derived.JoinedTies
import Derived.KernelRfl
namespace Go.Proofs.Ytllcklddfcclfaa
/- THE CELL 'sum', in the pinned program and in every row, IS THE sha256 OF THE DUMP (.gsa) THAT YtllcklddfcclfaaProg.lean LOADS. Nothing in Lean hashes anything: it is a label: what it is worth is what the hold of that sum in a sandbox is worth. -/
noncomputable def Try.pinned : Pinned := { name := "ytllcklddfcclfaa", sum := "dc619a5c8fba60b84d11193b16c40f3e29915906df1f29fa6988187c48dfd104", checked := Try.checked }
namespace Rows
def none {H : Type} : Left H := { results := [], args := [] }

/-- 'loiterlaw04.ScopeApart': WHATEVER THE INPUT: true; the input reads as it did. -/
def scopeApartSpec : ChangeSpec := { name := "scopeApart", fn := fun _ => fun
  | [d] => { results := [.lit (.bool true)], args := [d] }
  | _ => none }
def scopeApartRow : OpenClaim := { program := "ytllcklddfcclfaa", sum := "dc619a5c8fba60b84d11193b16c40f3e29915906df1f29fa6988187c48dfd104", func := "loiter/loiterlaw04.ScopeApart", spec := "scopeApart", unfollowed := true, recurses := true, apart := false }
def ScopeApartSaid : Prop := scopeApartRow.holds Try.pinned (OpenSpec.ofChange scopeApartSpec)

/-- ITS FALSE NEIGHBOUR: 'it returns false'. Refute it at one input. -/
def scopeApartWrong : ChangeSpec := { name := "scopeApart", fn := fun _ => fun
  | [d] => { results := [.lit (.bool false)], args := [d] }
  | _ => none }
def ScopeApartWrongFalsely : Prop := scopeApartRow.holds Try.pinned (OpenSpec.ofChange scopeApartWrong)

/-- 'loiterlaw04.ScopeInts': WHATEVER THE INPUT: true; the input reads as it did. -/
def scopeIntsSpec : ChangeSpec := { name := "scopeInts", fn := fun _ => fun
  | [d] => { results := [.lit (.bool true)], args := [d] }
  | _ => none }
def scopeIntsRow : OpenClaim := { program := "ytllcklddfcclfaa", sum := "dc619a5c8fba60b84d11193b16c40f3e29915906df1f29fa6988187c48dfd104", func := "loiter/loiterlaw04.ScopeInts", spec := "scopeInts", unfollowed := true, recurses := true, apart := false }
def ScopeIntsSaid : Prop := scopeIntsRow.holds Try.pinned (OpenSpec.ofChange scopeIntsSpec)

/-- ITS FALSE NEIGHBOUR: 'it returns false'. Refute it at one input. -/
def scopeIntsWrong : ChangeSpec := { name := "scopeInts", fn := fun _ => fun
  | [d] => { results := [.lit (.bool false)], args := [d] }
  | _ => none }
def ScopeIntsWrongFalsely : Prop := scopeIntsRow.holds Try.pinned (OpenSpec.ofChange scopeIntsWrong)

/-- 'loiterlaw04.ScopeTexts': WHATEVER THE INPUT: true; the input reads as it did. -/
def scopeTextsSpec : ChangeSpec := { name := "scopeTexts", fn := fun _ => fun
  | [d] => { results := [.lit (.bool true)], args := [d] }
  | _ => none }
def scopeTextsRow : OpenClaim := { program := "ytllcklddfcclfaa", sum := "dc619a5c8fba60b84d11193b16c40f3e29915906df1f29fa6988187c48dfd104", func := "loiter/loiterlaw04.ScopeTexts", spec := "scopeTexts", unfollowed := true, recurses := true, apart := false }
def ScopeTextsSaid : Prop := scopeTextsRow.holds Try.pinned (OpenSpec.ofChange scopeTextsSpec)

/-- ITS FALSE NEIGHBOUR: 'it returns false'. Refute it at one input. -/
def scopeTextsWrong : ChangeSpec := { name := "scopeTexts", fn := fun _ => fun
  | [d] => { results := [.lit (.bool false)], args := [d] }
  | _ => none }
def ScopeTextsWrongFalsely : Prop := scopeTextsRow.holds Try.pinned (OpenSpec.ofChange scopeTextsWrong)

/-- 'loiterlaw04.ScopeNests': WHATEVER THE INPUT: true; the input reads as it did. -/
def scopeNestsSpec : ChangeSpec := { name := "scopeNests", fn := fun _ => fun
  | [d1, d2, d3] => { results := [.lit (.bool true)], args := [d1, d2, d3] }
  | _ => none }
def scopeNestsRow : OpenClaim := { program := "ytllcklddfcclfaa", sum := "dc619a5c8fba60b84d11193b16c40f3e29915906df1f29fa6988187c48dfd104", func := "loiter/loiterlaw04.ScopeNests", spec := "scopeNests", unfollowed := true, recurses := true, apart := false }
def ScopeNestsSaid : Prop := scopeNestsRow.holds Try.pinned (OpenSpec.ofChange scopeNestsSpec)

/-- ITS FALSE NEIGHBOUR: 'it returns false'. Refute it at one input. -/
def scopeNestsWrong : ChangeSpec := { name := "scopeNests", fn := fun _ => fun
  | [d1, d2, d3] => { results := [.lit (.bool false)], args := [d1, d2, d3] }
  | _ => none }
def ScopeNestsWrongFalsely : Prop := scopeNestsRow.holds Try.pinned (OpenSpec.ofChange scopeNestsWrong)

/-- 'loiterlaw04.ScopeNil': WHATEVER THE INPUT: true; the input reads as it did. -/
def scopeNilSpec : ChangeSpec := { name := "scopeNil", fn := fun _ => fun
  | [] => { results := [.lit (.bool true)], args := [] }
  | _ => none }
def scopeNilRow : OpenClaim := { program := "ytllcklddfcclfaa", sum := "dc619a5c8fba60b84d11193b16c40f3e29915906df1f29fa6988187c48dfd104", func := "loiter/loiterlaw04.ScopeNil", spec := "scopeNil", unfollowed := true, recurses := true, apart := false }
def ScopeNilSaid : Prop := scopeNilRow.holds Try.pinned (OpenSpec.ofChange scopeNilSpec)

/-- ITS FALSE NEIGHBOUR: 'it returns false'. Refute it at one input. -/
def scopeNilWrong : ChangeSpec := { name := "scopeNil", fn := fun _ => fun
  | [] => { results := [.lit (.bool false)], args := [] }
  | _ => none }
def ScopeNilWrongFalsely : Prop := scopeNilRow.holds Try.pinned (OpenSpec.ofChange scopeNilWrong)

/- THE SECOND FORM. 'bulk': how many values and letters a reading holds, each counted each time it is reached (what is shared counts as often as it is met; a slice's spare places count too). A statement '..UptoSaid' is the law's where the arguments, and the package variables that the reading takes, are together of bulk at most 1048576: NARROWER than '..Said'. Prove '..Said' where nothing that the law and all that it calls make is longer than what came in: it says more and counts as full. Else prove '..UptoSaid'. A law counts once. -/
mutual
def uptoBulk {H : Type} : DataW H → Nat
  | .lit (.string bytes) => bytes.length + 1
  | .lit _ => 1
  | .nil => 1
  | .ptr d => uptoBulk d + 1
  | .slice elems spare => uptoBulkAll elems + uptoBulkAll spare + 1
  | .agg parts => uptoBulkAll parts + 1
  | .iface _ d => uptoBulk d + 1
  | .map entries => uptoBulkEntries entries + 1
  | .held _ => 1
def uptoBulkAll {H : Type} : List (DataW H) → Nat
  | [] => 0
  | d :: r => uptoBulk d + uptoBulkAll r
def uptoBulkEntries {H : Type} : List (Lit × DataW H) → Nat
  | [] => 0
  | x :: r => uptoBulkEntry x + uptoBulkEntries r
def uptoBulkEntry {H : Type} : Lit × DataW H → Nat
  | (.string bytes, d) => bytes.length + uptoBulk d + 1
  | (_, d) => uptoBulk d + 1
 end
def uptoSmall : (H : Type) → List (DataW H) → Bool := fun _ ds => decide (uptoBulkAll ds ≤ 1048576)
def OpenSpec.upto (s : _root_.Go.ChangeSpec) : _root_.Go.OpenSpec := { _root_.Go.OpenSpec.ofChange s with cond := some uptoSmall }

/-- 'loiterlaw04.ScopeApart', WHERE WHAT IT READS IS OF BULK AT MOST 1048576: true; the input reads as it did. -/
def scopeApartUptoRow : OpenClaim := { program := "ytllcklddfcclfaa", sum := "dc619a5c8fba60b84d11193b16c40f3e29915906df1f29fa6988187c48dfd104", func := "loiter/loiterlaw04.ScopeApart", spec := "scopeApart", unfollowed := true, recurses := true, apart := false, narrowed := true }
def ScopeApartUptoSaid : Prop := scopeApartUptoRow.holds Try.pinned (OpenSpec.upto scopeApartSpec)

/-- 'loiterlaw04.ScopeInts', WHERE WHAT IT READS IS OF BULK AT MOST 1048576: true; the input reads as it did. -/
def scopeIntsUptoRow : OpenClaim := { program := "ytllcklddfcclfaa", sum := "dc619a5c8fba60b84d11193b16c40f3e29915906df1f29fa6988187c48dfd104", func := "loiter/loiterlaw04.ScopeInts", spec := "scopeInts", unfollowed := true, recurses := true, apart := false, narrowed := true }
def ScopeIntsUptoSaid : Prop := scopeIntsUptoRow.holds Try.pinned (OpenSpec.upto scopeIntsSpec)

/-- 'loiterlaw04.ScopeTexts', WHERE WHAT IT READS IS OF BULK AT MOST 1048576: true; the input reads as it did. -/
def scopeTextsUptoRow : OpenClaim := { program := "ytllcklddfcclfaa", sum := "dc619a5c8fba60b84d11193b16c40f3e29915906df1f29fa6988187c48dfd104", func := "loiter/loiterlaw04.ScopeTexts", spec := "scopeTexts", unfollowed := true, recurses := true, apart := false, narrowed := true }
def ScopeTextsUptoSaid : Prop := scopeTextsUptoRow.holds Try.pinned (OpenSpec.upto scopeTextsSpec)

/-- 'loiterlaw04.ScopeNests', WHERE WHAT IT READS IS OF BULK AT MOST 1048576: true; the input reads as it did. -/
def scopeNestsUptoRow : OpenClaim := { program := "ytllcklddfcclfaa", sum := "dc619a5c8fba60b84d11193b16c40f3e29915906df1f29fa6988187c48dfd104", func := "loiter/loiterlaw04.ScopeNests", spec := "scopeNests", unfollowed := true, recurses := true, apart := false, narrowed := true }
def ScopeNestsUptoSaid : Prop := scopeNestsUptoRow.holds Try.pinned (OpenSpec.upto scopeNestsSpec)

/-- 'loiterlaw04.ScopeNil', WHERE WHAT IT READS IS OF BULK AT MOST 1048576: true; the input reads as it did. -/
def scopeNilUptoRow : OpenClaim := { program := "ytllcklddfcclfaa", sum := "dc619a5c8fba60b84d11193b16c40f3e29915906df1f29fa6988187c48dfd104", func := "loiter/loiterlaw04.ScopeNil", spec := "scopeNil", unfollowed := true, recurses := true, apart := false, narrowed := true }
def ScopeNilUptoSaid : Prop := scopeNilUptoRow.holds Try.pinned (OpenSpec.upto scopeNilSpec)

end Rows
end Go.Proofs.Ytllcklddfcclfaa
