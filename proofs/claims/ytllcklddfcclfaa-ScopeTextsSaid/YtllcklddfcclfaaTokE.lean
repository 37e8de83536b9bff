/- Tokens: when two are the same. -/
import Derived.Test.YtllcklddfcclfaaFacts4
import Derived.WalkLawsBesides
namespace Go.Proofs.Ytllcklddfcclfaa
open Go.RowKit
set_option linter.unusedVariables false
set_option linter.unusedSimpArgs false

abbrev Tok := Int × List UInt8 × Int × Int

theorem bytes_beq (a b : List UInt8) : ((⟨a.toArray⟩ : ByteArray).toList == (⟨b.toArray⟩ : ByteArray).toList) = decide (a = b) := by
  rw [ByteArray.toList_eq, ByteArray.toList_eq]
  by_cases h : a = b <;> simp [h]

theorem tokFields : (Try.prog.fieldsOf 48).toList.map (fun f => (f.name, f.type, f.offset)) = [("Kind", 3, 0), ("Text", 9, 1), ("Num", 3, 2), ("At", 3, 3)] := by kernel_rfl

theorem tokStood : Try.prog.stoodInHeld 48 = false := by kernel_rfl

theorem tokUnd : Try.prog.underlying 48 = some (.struct (Try.prog.fieldsOf 48)) := by kernel_rfl

theorem run_equal_tok (w : World) (a b : Tok) : (Op.equal 48 (encT a) (encT b)).run Try.prog w = .ok (decide (a = b)) w := by
  obtain ⟨a1, a2, a3, a4⟩ := a
  obtain ⟨b1, b2, b3, b4⟩ := b
  have hf := tokFields
  unfold Op.equal Op.maxDepth encT
  rw [run_equalIn_struct w 9999 48 _ _ tokUnd tokStood]
  match hfs : (Try.prog.fieldsOf 48).toList, hf with
  | [f1, f2, f3, f4], hf =>
    simp only [List.map_cons, List.map_nil, List.cons.injEq, Prod.mk.injEq, and_true] at hf
    obtain ⟨⟨n1, t1, o1⟩, ⟨n2, t2, o2⟩, ⟨n3, t3, o3⟩, ⟨n4, t4, o4⟩⟩ := hf
    have p1 : ∀ (x y : Value) (cs : List Value) (i : Nat), cs[i]? = some x → (part 3 cs.toArray i).run Try.prog w = .ok x w := fun x y cs i h => by
      simp [part, isAgg, run_underlying Try.underlying3, h]
    have p2 : ∀ (x y : Value) (cs : List Value) (i : Nat), cs[i]? = some x → (part 9 cs.toArray i).run Try.prog w = .ok x w := fun x y cs i h => by
      simp [part, isAgg, run_underlying Try.underlying9, h]
    have e1 : ∀ (x y : Int), (Op.equalIn 9999 3 (.int .i64 x) (.int .i64 y)).run Try.prog w = .ok (x == y) w := fun x y => run_equalIn_int w 9998 3 .i64 .i64 x y Try.underlying3
    have e2 : ∀ (x y : ByteArray), (Op.equalIn 9999 9 (.string x) (.string y)).run Try.prog w = .ok (x.toList == y.toList) w := fun x y => run_equalIn_string w 9998 9 x y Try.underlying9
    simp only [Op.eqFields, n1, n2, n3, n4, t1, t2, t3, t4, o1, o2, o3, o4, ne_eq, reduceCtorEq, not_false_eq_true, String.reduceEq, if_true, Sem.run_bind]
    rw [p1 (.int .i64 a1) undef _ 0 rfl, Result.andThen_ok, p1 (.int .i64 b1) undef _ 0 rfl, Result.andThen_ok, e1, Result.andThen_ok]
    by_cases h1 : a1 = b1
    · rw [show (!(a1 == b1)) = false by simp [h1]]
      simp only [Bool.false_eq_true, if_false, Sem.run_bind]
      rw [p2 (.string ⟨a2.toArray⟩) undef _ 1 rfl, Result.andThen_ok, p2 (.string ⟨b2.toArray⟩) undef _ 1 rfl, Result.andThen_ok, e2, Result.andThen_ok, bytes_beq]
      by_cases h2 : a2 = b2
      · rw [show (!decide (a2 = b2)) = false by simp [h2]]
        simp only [Bool.false_eq_true, if_false, Sem.run_bind]
        rw [p1 (.int .i64 a3) undef _ 2 rfl, Result.andThen_ok, p1 (.int .i64 b3) undef _ 2 rfl, Result.andThen_ok, e1, Result.andThen_ok]
        by_cases h3 : a3 = b3
        · rw [show (!(a3 == b3)) = false by simp [h3]]
          simp only [Bool.false_eq_true, if_false, Sem.run_bind]
          rw [p1 (.int .i64 a4) undef _ 3 rfl, Result.andThen_ok, p1 (.int .i64 b4) undef _ 3 rfl, Result.andThen_ok, e1, Result.andThen_ok]
          by_cases h4 : a4 = b4
          · rw [show (!(a4 == b4)) = false by simp [h4]]
            simp [h1, h2, h3, h4]
          · rw [show (!(a4 == b4)) = true by simp [h4]]
            simp [h4]
        · rw [show (!(a3 == b3)) = true by simp [h3]]
          simp [h3]
      · rw [show (!decide (a2 = b2)) = true by simp [h2]]
        simp [h2]
    · rw [show (!(a1 == b1)) = true by simp [h1]]
      simp [h1]
  | [], hf | [_], hf | [_, _], hf | [_, _, _], hf | _ :: _ :: _ :: _ :: _ :: _, hf => simp at hf

theorem run_eql_tok (w : World) (a b : Tok) : (binOp .eql 48 (encT a) (encT b)).run Try.prog w = .ok (.bool (decide (a = b))) w := by
  have h := run_equal_tok w a b
  unfold encT at h ⊢
  simp [binOp, h]

theorem run_neq_tok (w : World) (a b : Tok) : (binOp .neq 48 (encT a) (encT b)).run Try.prog w = .ok (.bool (!decide (a = b))) w := by
  have h := run_equal_tok w a b
  unfold encT at h ⊢
  simp [binOp, h]

end Go.Proofs.Ytllcklddfcclfaa
