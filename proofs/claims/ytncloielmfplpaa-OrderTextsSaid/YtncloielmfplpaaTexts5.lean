/- loiterlaw05.texts: pairs of numbers as pairs of texts. -/
import Derived.Test.YtncloielmfplpaaDigits
import Derived.Test.YtncloielmfplpaaGraphOfI
import Derived.Test.YtncloielmfplpaaGraphOfS
import Derived.Test.YtncloielmfplpaaRch5
import Derived.Test.YtncloielmfplpaaInj5
import Derived.Shelf.Abstract
import Derived.Deep.RegionLaw
namespace Go.Proofs.Ytncloielmfplpaa
open Go.RowKit Go.Shelf
set_option linter.unusedVariables false
set_option linter.unusedSimpArgs false

theorem slPrS : SlT Try.prog 46 52 (.agg #[.string ⟨#[]⟩, .string ⟨#[]⟩]) 2 32 := SlT.mk' Try.underlying46 (by kernel_rfl) rfl (by decide) (by decide)

/-- A call of one argument that makes new memory and turns nothing else, as a step of a region that draws its order. -/
theorem step_callK {P : Program} {w : World} {ops : Array Oper} {o : Oper} {a : Act} {K : Act → World → Prop} {Q : Exit → Act → World → Prop} {E : Prop}
    (hgd : o.guard = none) (f : Nat) (x : Operand) (tys : Array TypeId) (ho : o.op = .call { callee := .value (.func f), args := #[x], argTypes := tys }) (he : ∀ args w, (callFunc f args).run P w = .ok (.enter f args) w) {xv v : Value}
    (hx : a.eval x = xv) (hc : Calls P f #[xv] w fun e w' => e = .returned v ∧ Kept (fun _ => False) w w') (h : ∀ w', Kept (fun _ => False) w w' → K (a.put o.dst v) w') :
    if Region.wanted o (yielded ops a.tmps) = true then Oper.wp P o a w K Q else E := by
  have hw : Region.wanted o (yielded ops a.tmps) = true := by simp [Region.wanted, hgd]
  rw [if_pos hw]
  have he' : (callFunc f #[xv]).run P w = .ok (.enter f #[xv]) w := he _ _
  have e : (execOp a.eval o).run P w = .ok (.enter f #[xv]) w := by
    unfold execOp
    have hef : a.eval (.func f) = .func (.func f) #[] #[] := rfl
    simp [ho, resolve, Deferred.ofValue, invoke, hx, hef, he', Result.andThen]
  unfold Oper.wp
  rw [e]
  exact hc.mono fun e w' h2 => by obtain ⟨rfl, h3⟩ := h2; exact h _ h3

theorem entersText (args : Array Value) (w : World) : (callFunc 25 args).run Try.prog w = .ok (.enter 25 args) w :=
  enters_of Try.func25 (by kernel_rfl) rfl args w

/-- Both numbers are ints. -/
def InR2 (u : Int × Int) : Prop := InR u.1 ∧ InR u.2

set_option maxRecDepth 100000 in
set_option maxHeartbeats 4000000 in
theorem texts5 {w : World} {uv : Value} {uses : List (Int × Int)} (hu : Rd w 2 uv uses.length (cellsOf encPrI uses)) (hr : ∀ u ∈ uses, InR2 u) (h2 : uses.length ≤ 1000) :
    Calls Try.prog 23 #[uv] w fun e w' => ∃ v, e = .returned v ∧ Fresh w w' 52 2 v uses.length (cellsOf encPrS (uses.map (both5 textB))) := by
  obtain ⟨ua, uc, rfl, u1, u2, u3⟩ := hu.2
  have HU := Lib.hid hu
  have U3 := Lib.hid u3.1
  have HR := Lib.hid hr
  unfold maxLen at u2
  clear hu u3 hr
  go_enter Try.func23, Try.ntmps23
  go_wp2_with fail
  go_loopw [3, 4] (fun nv i wr => ∃ k : Nat, k ≤ uses.length ∧ i = .int .i64 k ∧ ∃ na nc, nv = .slice na k nc ∧ Hid (Own wr 52 2 nv k (cellsOf encPrS ((uses.take k).map (both5 textB))) ∧ Kept (fun _ => False) w wr ∧ ∀ b, nv.ownBlock = some b → w.heap.size ≤ b)) (fun _ i _ => uses.length - (intOf i).toNat)
  case atStart => exact ⟨0, Nat.zero_le _, rfl, none, 0, rfl, Lib.hid ⟨Own.nil _ _ _, Kept.refl _ _, by simp [Value.ownBlock]⟩⟩
  case round =>
    obtain ⟨k, hk, rfl, na, nc, rfl, hH⟩ := hrel
    by_cases hlt : k < uses.length
    · have hki : (k : Int) < (uses.length : Int) := by omega
      obtain ⟨hO, hK, hF⟩ := hH.out
      cases ua with
      | none => exact absurd (U3.out rfl).1 (by omega)
      | some ad =>
        obtain ⟨p0, p1⟩ := rdPrI (HU.out.frame hK (fun _ _ => id)) hlt
        have hin := HR.out _ (List.getElem_mem hlt)
        have HST : Hid ((uses.take (k + 1)).map (both5 textB) = (uses.take k).map (both5 textB) ++ [both5 textB uses[k]]) := Lib.hid (by rw [List.take_succ_eq_append_getElem hlt, List.map_append]; rfl)
        generalize uses[k] = u at p0 p1 hin HST
        obtain ⟨va, vb⟩ := u
        simp only [encI] at p0 p1
        obtain ⟨S0, hS0⟩ : ∃ S : ByteArray, S = ⟨(textB va).toArray⟩ := ⟨_, rfl⟩
        obtain ⟨S1, hS1⟩ : ∃ S : ByteArray, S = ⟨(textB vb).toArray⟩ := ⟨_, rfl⟩
        have T0 : Hid (∀ wx, Calls Try.prog 25 #[.int .i64 va] wx fun e w' => e = .returned (.string S0) ∧ Kept (fun _ => False) wx w') := Lib.hid fun wx => by rw [hS0]; exact text_text va wx hin.1.1 hin.1.2
        have T1 : Hid (∀ wx, Calls Try.prog 25 #[.int .i64 vb] wx fun e w' => e = .returned (.string S1) ∧ Kept (fun _ => False) wx w') := Lib.hid fun wx => by rw [hS1]; exact text_text vb wx hin.2.1 hin.2.2
        have HE : Hid (cellsOf encPrS [both5 textB (va, vb)] = [.string S0, .string S1]) := Lib.hid (by rw [hS0, hS1]; rfl)
        have HO := Lib.hid hO
        have HK := Lib.hid hK
        have HF := Lib.hid hF
        have HC : Hid (Kept (fun _ => False) wr wr.drew) := Lib.hid ((Kept.refl (fun _ => False) wr).drewN 1)
        have HFT : Hid (Fits (k + 1) 32) := Lib.hid (fits_of (by omega) (by decide))
        generalize (uses.take k).map (both5 textB) = A at HO HST
        clear hH hO hK hF hin hS0 hS1 hlt
        go_wp2_with fail
        go_region_law (first
          | (refine step_callK (v := .string S0) (xv := .int .i64 va) rfl 25 _ _ rfl entersText rfl (T0.out _) ?_
             intro w4 hk4
             have HC := Lib.hid (HC.out.trans' hk4 (fun _ _ h => h))
             have e0 := HC.out.cell p0 id
             have e1 := HC.out.cell p1 id
             clear hk4)
          | (refine step_callK (v := .string S1) (xv := .int .i64 vb) rfl 25 _ _ rfl entersText rfl (T1.out _) ?_
             intro w4 hk4
             have HC := Lib.hid (HC.out.trans' hk4 (fun _ _ h => h))
             have e0 := HC.out.cell p0 id
             have e1 := HC.out.cell p1 id
             clear hk4)
          | (refine step_append slPrS (v := .slice na k nc) (n := k) (m := 1) (xs := cellsOf encPrS A) (news := [.string S0, .string S1]) rfl _ _ rfl rfl rfl ?_ ?_ ?_ HFT.out ?_
             · exact (HO.out.frame HC.out (fun _ _ => id)).alloc _
             · exact Own.rd (Own.fresh (n := 1) (by rfl) (by decide))
             · simp [Value.oneCell']
             intro x2 w2 hown2 hk2 hb2
             obtain ⟨a2, c2, rfl, _, _, _⟩ := hown2.shape
             have hk2' : Kept (fun b => (Value.slice na k nc).ownBlock = some b) (w4.alloc (.cells #[.string S0, .string S1] 52)) w2 := ⟨hk2.os, hk2.tape, hk2.output, hk2.size, hk2.block⟩
             have hb2' : ∀ b, (Value.slice a2 (k + 1) c2).ownBlock = some b → (Value.slice na k nc).ownBlock = some b ∨ (w4.alloc (.cells #[.string S0, .string S1] 52)).heap.size ≤ b := hb2
             have Q : Hid (Own w2 52 2 (.slice a2 (k + 1) c2) (k + 1) (cellsOf encPrS ((uses.take (k + 1)).map (both5 textB))) ∧ Kept (fun _ => False) w w2 ∧ ∀ b, (Value.slice a2 (k + 1) c2).ownBlock = some b → w.heap.size ≤ b) := Lib.hid (by
               have h1 := HK.out.size
               have h2 := HC.out.size
               refine ⟨by rw [HST.out, cellsOf_append, HE.out]; exact hown2, (((HK.out.trans' HC.out (fun _ _ h => h)).alloc _).trans' hk2' (fun i hi h => by have := HF.out i h; omega)), fun b hb => ?_⟩
               rcases hb2' b hb with h | h
               · exact HF.out b h
               · simp at h
                 omega)
             clear hown2 hk2 hb2 hk2' hb2'))
        all_goals
          clear p0 p1
          go_wp2
          go_roundw
          case rel => exact ⟨k + 1, by omega, by go_num, a2, c2, rfl, Q⟩
          case measure => simp [intOf]; omega
    · obtain rfl : k = uses.length := by omega
      have hki : ¬ (uses.length : Int) < (uses.length : Int) := by omega
      have hH2 := hH.out
      rw [List.take_length] at hH2
      have HQ : Hid (Fresh w wr 52 2 (.slice na uses.length nc) uses.length (cellsOf encPrS (uses.map (both5 textB)))) := Lib.hid hH2
      clear hH hH2 hlt
      go_wp2
      go_ret
      exact ⟨_, rfl, HQ.out⟩

end Go.Proofs.Ytncloielmfplpaa
