/- The scope's methods at one pair of types: New, Open, Bind, Level, Here. -/
import Derived.Test.YtllcklddfcclfaaCloneI
import Derived.Test.YtllcklddfcclfaaScopeIs
import Derived.Maps.OwnSet
import Derived.WalkSpells
import Derived.WalkLawsBesides
import Derived.Deep.QuietTactic
import Derived.BigQuiet
namespace Go.Proofs.Ytllcklddfcclfaa
open Go.RowKit
set_option linter.unusedVariables false
set_option linter.unusedSimpArgs false

theorem slFrII : SlT Try.prog 67 73 (.agg #[.map none, .slice none 0 0]) 2 32 := SlT.mk' Try.underlying67 (by kernel_rfl) rfl (by decide) (by decide)

abbrev ScopeII := ScopeIs (α := Int) (β := Int) 69 73 3 encI encI (MapKept.IsKey (.int .i64))

section
variable {p : Value} {F : Nat → Prop} {fr : List (Fr (Int) (Int))} {w : World}

theorem scopeOpenII (h : ScopeII w p F fr) (hf : Fits (fr.length + 1) 32) :
    Calls Try.prog 16 #[p] w fun e w' => (∃ v, e = .returned v) ∧ ∃ F', ScopeII w' p F' (fr ++ [⟨w.heap.size, .slice none 0 0, []⟩]) ∧ Kept F w w' ∧ ∀ b, F' b → F b ∨ w.heap.size ≤ b := by
  have hmm := @run_makeMap Try.prog
  obtain ⟨sb, v, rfl, h1, h2, h3, h4, hF⟩ := h
  obtain ⟨a, c, rfl, a1, a2, a3⟩ := h2.shape
  have c0 : w.cell? ⟨sb, 0, none⟩ = some (.slice a fr.length c) := cell_of h1 rfl
  have hrd : Rd ((w.alloc (.map #[] 0)).alloc (.cells #[.map (some w.heap.size), .slice none 0 0] 73)) 2 (.slice (some ⟨w.heap.size + 1, 0, none⟩) 1 1) 1 [.map (some w.heap.size), .slice none 0 0] := by
    have := Own.rd (Own.fresh (w := w.alloc (.map #[] 0)) (e := 73) (sz := 2) (n := 1) (cs := #[.map (some w.heap.size), .slice none 0 0]) (by rfl) (by decide))
    simpa using this
  have HRD := Lib.hid hrd
  have H1 := Lib.hid h1
  have H2 := Lib.hid h2
  have H3 := Lib.hid h3
  have H4 := Lib.hid h4
  have HF := Lib.hid hF
  have HT := Lib.hid hf
  have HV : Hid ((Value.slice a fr.length c).ownBlock ≠ some sb) := Lib.hid (fun e => (List.nodup_cons.1 h4).1 (by simp [e]))
  clear hrd h1 h2 h3 h4 hF hf a3
  go_enter Try.func16, Try.ntmps16
  go_wp2_with (first
    | (at_builtin; refine wpList_append slFrII (v := .slice a fr.length c) (vx := .slice (some ⟨w.heap.size + 1, 0, none⟩) 1 1) (news := [.map (some w.heap.size), .slice none 0 0]) (m := 1) rfl _ _ rfl rfl rfl ((H2.out.alloc _).alloc _) HRD.out (by simp [Value.oneCell']) HT.out ?_; intro v2 w2 hown2 hk2 hb2 _; obtain ⟨a2, c2, rfl, _, _, _⟩ := hown2.shape; have e2 := Lib.hid ((hk2.block sb (by have := heap_lt H1.out; simp; omega) HV.out).trans (heap_alloc (heap_alloc H1.out _) _)); have d2 : w2.cell? ⟨sb, 0, none⟩ = some (.slice a fr.length c) := cell_of e2.out rfl; have f2 : w2.frozen? ⟨sb, 0, none⟩ = false := frozen_of e2.out))
  go_end0
  exact ⟨⟨_, rfl⟩, ScopeIs.opened HF.out H1.out H2.out H3.out H4.out hk2 hown2 hb2 e2.out⟩

theorem scopeLevelII (h : ScopeII w p F fr) (h0 : 0 < fr.length) :
    Calls Try.prog 21 #[p] w fun e w' => e = .returned (.int .i64 ((fr.length - 1 : Nat) : Int)) ∧ w = w' := by
  obtain ⟨sb, v, rfl, h1, h2, h3, h4, hF⟩ := h
  obtain ⟨a, c, rfl, a1, a2, a3⟩ := h2.shape
  have c0 : w.cell? ⟨sb, 0, none⟩ = some (.slice a fr.length c) := cell_of h1 rfl
  have e0 : ((fr.length - 1 : Nat) : Int) = (fr.length : Int) - 1 := by omega
  unfold maxLen at a2
  rw [e0]
  clear h1 h2 h3 h4 hF a3 e0
  go_enter Try.func21, Try.ntmps21
  go_wp2
  go_ret
  exact ⟨rfl, rfl⟩

end

theorem scopeNewII (w : World) :
    Calls Try.prog 9 #[] w fun e w' => ∃ b mb F, e = .returned (.pointer (some ⟨b, 0, none⟩)) ∧ ScopeII w' (.pointer (some ⟨b, 0, none⟩)) F [⟨mb, .slice none 0 0, []⟩] ∧ Kept (fun _ => False) w w' ∧ (∀ b, F b → w.heap.size ≤ b) := by
  have h0 : ScopeII (w.alloc (.cells #[.slice none 0 0] 69)) (.pointer (some ⟨w.heap.size, 0, none⟩)) (fun b => b = w.heap.size) [] :=
    ⟨w.heap.size, .slice none 0 0, rfl, (by show (w.heap.push _)[w.heap.size]? = _; simp), Own.nil _ _ _, by simp, by simp [Value.ownBlock], by simp [Value.ownBlock]⟩
  have HO := Lib.hid (scopeOpenII h0 (fits_of (by simp) (by decide)))
  have hk := (Kept.refl (fun _ => False) w).alloc (.cells #[.slice none 0 0] 69)
  have HK := Lib.hid hk
  clear h0 hk
  go_enter Try.func9, Try.ntmps9
  go_wp2_with fail
  refine HO.out.mono ?_
  rintro e w' ⟨⟨v, rfl⟩, F', r1, r2, r3⟩
  go_wp2
  go_ret
  refine ⟨w.heap.size, _, F', rfl, r1, HK.out.trans' r2 (fun i hi h => by omega), fun b hb => ?_⟩
  rcases r3 b hb with h | h
  · omega
  · simp at h; omega

end Go.Proofs.Ytllcklddfcclfaa
