/- Closed facts of this seat's program on its types. -/
import Derived.Test.YtllcklddfcclfaaRows
import Derived.Test.YtllcklddfcclfaaBase
import Derived.Test.YtllcklddfcclfaaText
namespace Go.Proofs.Ytllcklddfcclfaa
open Go.RowKit

theorem slInt : SlT Try.prog 22 3 (.int .i64 0) 1 8 := SlT.mk' Try.underlying22 (by kernel_rfl) rfl (by decide) (by decide)
theorem slStr : SlT Try.prog 55 9 (.string ⟨#[]⟩) 1 16 := SlT.mk' Try.underlying55 (by kernel_rfl) rfl (by decide) (by decide)
theorem slU8 : SlT Try.prog 115 5 (.int .u8 0) 1 1 := SlT.mk' Try.underlying115 (by kernel_rfl) rfl (by decide) (by decide)
theorem slRows : SlT Try.prog 31 22 (.slice none 0 0) 1 24 := SlT.mk' Try.underlying31 (by kernel_rfl) rfl (by decide) (by decide)

/-- How an int, a text, a token lie in cells. -/
def encI (n : Int) : Value := .int .i64 n
def encS (s : List UInt8) : Value := .string ⟨s.toArray⟩
def encT (t : Int × List UInt8 × Int × Int) : Value := .agg #[.int .i64 t.1, .string ⟨t.2.1.toArray⟩, .int .i64 t.2.2.1, .int .i64 t.2.2.2]

theorem encI_inj (a b : Int) (h : encI a = encI b) : a = b := by simpa [encI] using h
theorem encS_inj (a b : List UInt8) (h : encS a = encS b) : a = b := by simpa [encS] using h
theorem encT_inj (a b : Int × List UInt8 × Int × Int) (h : encT a = encT b) : a = b := by
  simp only [encT, Value.agg.injEq, Array.mk.injEq, List.cons.injEq, Value.int.injEq, true_and, and_true, Value.string.injEq, ByteArray.mk.injEq] at h
  obtain ⟨a1, a2, a3, a4⟩ := a
  obtain ⟨b1, b2, b3, b4⟩ := b
  simp_all

theorem ikI (n : Int) : MapKept.IsKey (.int .i64) (encI n) := rfl
theorem ikS (s : List UInt8) : MapKept.IsKey .string (encS s) := trivial
theorem oneI (ks : List Int) : ∀ u ∈ ks.flatMap (fun k => (encI k).cells.toList), u.oneCell' = true := by
  intro u hu
  obtain ⟨k, _, hk⟩ := List.mem_flatMap.1 hu
  simp [encI, Value.cells] at hk
  subst hk; rfl
theorem oneS (ks : List (List UInt8)) : ∀ u ∈ ks.flatMap (fun k => (encS k).cells.toList), u.oneCell' = true := by
  intro u hu
  obtain ⟨k, _, hk⟩ := List.mem_flatMap.1 hu
  simp [encS, Value.cells] at hk
  subst hk; rfl
theorem oneT (ks : List (Int × List UInt8 × Int × Int)) : ∀ u ∈ ks.flatMap (fun k => (encT k).cells.toList), u.oneCell' = true := by
  intro u hu
  obtain ⟨k, _, hk⟩ := List.mem_flatMap.1 hu
  simp [encT, Value.cells] at hk
  rcases hk with rfl | rfl | rfl | rfl <;> rfl

def tokOf (n : Int) : Int × List UInt8 × Int × Int := (n, textB n, 0, 0)

theorem koI : KeyOk Try.prog 3 (MapKept.IsKey (.int .i64)) := keyOk_plain Try.underlying3
theorem koS : KeyOk Try.prog 9 (MapKept.IsKey .string) := keyOk_plain Try.underlying9

theorem zeroInt (w : World) : (zeroValue 3).run Try.prog w = .ok (.int .i64 0) w := by kernel_rfl

/-- A slice of new memory that holds xs. -/
def Fresh (w w' : World) (e : TypeId) (sz : Nat) (v : Value) (n : Nat) (xs : List Value) : Prop :=
  Own w' e sz v n xs ∧ Kept (fun _ => False) w w' ∧ ∀ b, v.ownBlock = some b → w.heap.size ≤ b

end Go.Proofs.Ytllcklddfcclfaa
