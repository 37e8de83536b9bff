/- Proved: ScopeTextsSaid: for every input the law answers true and its arguments read as they did; no condition. -/
import Derived.Test.YtllcklddfcclfaaScopeTexts
import Derived.Test.YtllcklddfcclfaaLawFrame
namespace Go.Proofs.Ytllcklddfcclfaa
open Go.ChangeShapes Go.WideShapes Go.ChangeAt Go.RowKit
set_option linter.unusedVariables false

namespace scopeTexts
theorem own : ownKnob Try.prog.godebug = none := by kernel_rfl
theorem laid : laidOutB Try.prog = true := by kernel_rfl
theorem reads : ((Try.f5.params.toList).all fun t => Try.prog.readableRec t && decide (t < Try.prog.types.size)) = true := by kernel_rfl

theorem fn_eq {H : Type} (ds : List (DataW H)) (h : ds.length = 1) : Rows.scopeTextsSpec.fn H (ds ++ []) = { results := [.lit (.bool true)], args := ds } := by
  match ds, h with
  | [_], _ => rfl

set_option maxRecDepth 100000 in
theorem lifted (os : Os) (started : os.Started) (H : Type) (enc : TypeId × Value → H) :
    ReturnsInHanded {} Try.checked os 5 .any (Rows.scopeTextsSpec.pre6 enc Try.prog Try.f5 Rows.scopeTextsRow.domain false) (Rows.scopeTextsSpec.post enc Try.prog Try.f5 false true false false) := by
  refine returnsInHanded_of_change_sized (C := Try.checked) own started (by kernel_rfl) Try.func5
    (ChangeSpec.witness6 (enc := enc) (C := Try.checked) false ⟨#[], #[.slice none 0 0], []⟩ 8 (by kernel_rfl) (by kernel_rfl) (by kernel_rfl) (by kernel_rfl)) ?_
  intro W base args ds gs before hval0 hW _ hsz0 _
  have hW2 := hW
  obtain ⟨p, q, hA0, hV, rfl, hfz, hnd⟩ := hW
  obtain ⟨rfl, rfl⟩ := trodVars_none hV
  have hsz : (DataW.weightsEach Try.prog (Try.f5.params.toList ++ []) (ds ++ [])).all (· ≤ reachBytes) = true := hsz0
  rw [List.append_nil, List.append_nil] at hsz
  have hlen : ds.length = 1 := by
    have h0 : DataW.TrodAll enc Try.prog W 0 (fun _ => true) true Try.f5.params.toList args.toList ds p := hA0
    rw [Try.params5] at h0
    obtain ⟨_, _, _, h, _⟩ := trodAll_one h0; rw [h]; rfl
  refine (scopeTexts_calls H enc W args ds p (fun j t v h1 h2 => ⟨base, hval0 j t v h1 h2⟩) hA0 hsz).mono fun e W' ⟨he, hb⟩ => ?_
  subst he
  refine ⟨_, rfl, law_post laid (tb := 4) (by kernel_rfl) Try.underlying4 ?_ rfl hW2 hb (fn_eq ds hlen)⟩
  intro t ht
  have := List.all_eq_true.1 reads t ht
  simpa using this

theorem holds : Rows.ScopeTextsSaid :=
  OpenClaim.holds_of_wide 5 Try.f5 rfl rfl rfl rfl rfl rfl rfl ⟨rfl, rfl, rfl, rfl, rfl⟩ rfl rfl rfl rfl rfl (by kernel_rfl) Try.func5 (by kernel_rfl)
    (of_decide_eq_true (by kernel_rfl)) (by unfold Func.isWrapper; rw [if_neg (of_decide_eq_false (by kernel_rfl))]; exact ⟨rfl, rfl⟩)
    (fun os started H enc _ => lifted os started H enc)
end scopeTexts

theorem scopeTexts_holds : Rows.ScopeTextsSaid := scopeTexts.holds
#print axioms scopeTexts_holds

end Go.Proofs.Ytllcklddfcclfaa
