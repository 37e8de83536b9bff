/- slices.Backward over numbers: the iterator. -/
import Derived.Test.YtncloielmfplpaaMem5
import Derived.RangeFuncNested
import Derived.RangeFuncBound
import Derived.RangeFuncCalls
import Derived.RangeFuncLeaves
import Derived.RangeFuncBox
import Derived.Shelf.Abstract
import Derived.Shelf.RegionOpen
import Derived.WalkKit
import Derived.OwnWalkIn
import Derived.TacticsInMore
import Derived.LoopNIn
import Derived.LoopIn
namespace Go.Proofs.Ytncloielmfplpaa
open Go.RowKit Go.Shelf
set_option linter.unusedVariables false
set_option linter.unusedSimpArgs false

attribute [local go_sem] Oper.semAt_some

/-- Q, where no panic is let out. -/
def Calm (Q : Exit → Act → World → Prop) : Exit → Act → World → Prop := fun e a w => match e with
  | .panic _ => False
  | e => Q e a w

theorem wp_calm {P : Program} {c : Code} {Q : Exit → Act → World → Prop} {a : Act} {w : World} (h : c.wp P (Calm Q) a w) : c.wp P Q a w :=
  wp_mono h fun e a w hq => by cases e <;> first | exact hq | exact hq.elim

/-- What has come behind k rounds: the last k places, the last one first. -/
def back5 (len k : Nat) : List (Fin len) := (List.finRange len).reverse.take k

theorem back5_succ {len k : Nat} (h : k < len) : back5 len (k + 1) = back5 len k ++ [⟨len - 1 - k, by omega⟩] := by
  unfold back5
  rw [List.take_succ_eq_append_getElem (by simpa using h)]
  congr 2
  rw [List.getElem_reverse]
  simp

theorem back5_length {len k : Nat} (h : k ≤ len) : (back5 len k).length = k := by simp [back5, h]

/-- The two blocks lie as they lay. -/
def KeepB (b Bs : Nat) (A B : World) : Prop := A.heap.size ≤ B.heap.size ∧ B.heap[b]? = A.heap[b]? ∧ B.heap[Bs]? = A.heap[Bs]?

theorem KeepB.refl (b Bs : Nat) (A : World) : KeepB b Bs A A := ⟨Nat.le_refl _, rfl, rfl⟩
theorem KeepB.trans {b Bs : Nat} {A B C : World} (h : KeepB b Bs A B) (k : KeepB b Bs B C) : KeepB b Bs A C := ⟨Nat.le_trans h.1 k.1, k.2.1.trans h.2.1, k.2.2.trans h.2.2⟩
theorem KeepB.put {b Bs : Nat} {w : World} (hb : b < w.heap.size) (hB : Bs < w.heap.size) (W : World) (l : Nat) (o o' : Obj) (hl : w.heap.size ≤ l) (h : W.heap[l]? = some o) (_ : o.isCells = false) (_ : o.isWalk = false) : KeepB b Bs W (W.putObj l o') :=
  ⟨by simp [World.putObj], World.putObj_heap_other (by omega), World.putObj_heap_other (by omega)⟩

set_option maxRecDepth 100000 in
set_option maxHeartbeats 2000000 in
theorem backRun5 (F : Fence) (n : Nat) (h49 : F.fn 49) (hro : F.round = none) (hn : 1 ≤ n) (l Bs b off len cap : Nat) (ad : Option Addr) (ha : 0 < len → ad = some ⟨b, off, none⟩) (hl : len ≤ 9223372036854775807) (xv : Fin len → Nat) (J Jx : List (Fin len) → World → Prop)
    (hY : ∀ pre x W, J pre W → pre.length < len → YieldAt F (n - 1) Try.prog l #[.int .i64 (x.1 : Int), .int .i64 (xv x : Int)] W fun e W' =>
      (e = .returned (.bool true) ∧ J (pre ++ [x]) W' ∧ KeepB b Bs W W') ∨ (e = .returned (.bool false) ∧ Jx (pre ++ [x]) W'))
    (W : World) (hcB : W.cell? ⟨Bs, 0, none⟩ = some (.slice ad len cap)) (hc0 : ∀ j : Fin len, W.cell? ⟨b, off + j.1, none⟩ = some (.int .i64 (xv j : Int))) (h0 : J [] W) :
    CallsIn F n Try.prog 49 #[.func (.yield l) #[] #[], .pointer (some ⟨Bs, 0, none⟩)] W fun e W' => (∃ v, e = .returned v) ∧
      ((∃ ys, ys = back5 len len ∧ J ys W') ∨ (∃ pre, (∃ k, k ≤ len ∧ pre = back5 len k) ∧ Jx pre W')) := by
  refine callsIn_of_wp Try.func49 rfl h49 ?_ hro
  simp only [Try.ntmps49, List.size_toArray, List.length_cons, List.length_nil, Nat.reduceAdd, Nat.reduceSub, Array.replicate_succ, Array.replicate_zero, List.push_toArray, List.append_toArray, List.nil_append, List.cons_append]
  gi_wp2
  gi_loopw [3] (fun i wr => ∃ k : Nat, k ≤ len ∧ i = .int .i64 ((len : Int) - 1 - k) ∧ J (back5 len k) wr ∧ KeepB b Bs W wr)
    (fun i _ => (intOf i + 1).toNat)
  case atStart => exact ⟨0, Nat.zero_le _, by simp, by simpa [back5] using h0, KeepB.refl _ _ _⟩
  case round =>
    obtain ⟨k, hk, rfl, hJs, hnx⟩ := hrel
    have hcB' : wr.cell? ⟨Bs, 0, none⟩ = some (.slice ad len cap) := (World.cell?_of_block hnx.2.2).trans hcB
    by_cases hlt : k < len
    · obtain rfl := ha (by omega)
      obtain ⟨i, hi⟩ : ∃ i, i = len - 1 - k := ⟨_, rfl⟩
      have hil : i < len := by omega
      have e1 : (len : Int) - 1 - k = i := by omega
      have hx0 : wr.cell? ⟨b, off + i, none⟩ = some (.int .i64 (xv ⟨i, hil⟩ : Int)) := (World.cell?_of_block (a := ⟨b, off + i, none⟩) hnx.2.1).trans (hc0 ⟨i, hil⟩)
      obtain ⟨fn, tmps, assign, body, hy, hR⟩ := hY _ ⟨i, hil⟩ wr hJs (by rw [back5_length hk]; exact hlt)
      dsimp only at hy
      rw [e1]
      have HSU : Hid (back5 len (k + 1) = back5 len k ++ [⟨i, hil⟩]) := Lib.hid (by rw [back5_succ hlt]; simp only [hi])
      have HI := Lib.hid hi
      have HE := Lib.hid e1
      clear hi e1
      generalize xv ⟨i, hil⟩ = x0 at hx0 hy hR
      gi_wp2
      refine hR.mono ?_
      rintro e W3 (⟨rfl, hJ3, hk3⟩ | ⟨rfl, hJx3⟩)
      · gi_wp2
        go_roundw
        case rel => exact ⟨k + 1, by omega, by have := HI.out; congr 1; omega, by rw [HSU.out]; exact hJ3, hnx.trans hk3⟩
        case measure => simp [intOf] <;> omega
      · gi_wp2
        refine bodyPost_ret (results_none rfl _ _ _) rfl ?_
        exact ⟨⟨_, rfl⟩, .inr ⟨_, ⟨k + 1, by omega, HSU.out.symm⟩, hJx3⟩⟩
    · obtain rfl : k = len := by omega
      have e1 : (k : Int) - 1 - k = -1 := by omega
      rw [e1]
      gi_wp2
      go_end0
      exact ⟨⟨_, rfl⟩, .inl ⟨_, rfl, hJs⟩⟩

theorem backStops5 (F : Fence) (n : Nat) (h49 : F.fn 49) (hro : F.round = none) (hn : 1 ≤ n) (Bs b off len cap : Nat) (ad : Option Addr) (ha : 0 < len → ad = some ⟨b, off, none⟩) (xv : Fin len → Nat) (w : World) (hBs : Bs < w.heap.size) (hb : b < w.heap.size) (hl : len ≤ 9223372036854775807)
    (hcB : w.cell? ⟨Bs, 0, none⟩ = some (.slice ad len cap)) (hc0 : ∀ j : Fin len, w.cell? ⟨b, off + j.1, none⟩ = some (.int .i64 (xv j : Int))) :
    SeqStopsK F n Try.prog 49 #[.pointer (some ⟨Bs, 0, none⟩)] (fun x : Fin len => #[Value.int .i64 (x.1 : Int), Value.int .i64 (xv x : Int)]) (KeepB b Bs) (fun ys => ys = back5 len len)
      (fun pre => ∃ k, k ≤ len ∧ pre = back5 len k) len w := fun l J Jx W hW _ _ hY h0 =>
  backRun5 F n h49 hro hn l Bs b off len cap ad ha hl xv J Jx hY W ((hW.cell (p := ⟨Bs, 0, none⟩) (by show Bs < _; omega)).trans hcB) (fun j => (hW.cell (p := ⟨b, off + j.1, none⟩) (by show b < _; omega)).trans (hc0 j)) h0

set_option maxHeartbeats 1000000 in
theorem backCall5 (a : Option Addr) (len cap : Nat) (w : World) :
    Calls Try.prog 46 #[.slice a len cap] w fun e w' => e = .returned (.func (.func 49) #[] #[.pointer (some ⟨w.heap.size, 0, none⟩)]) ∧ w' = w.alloc (.cells #[.slice a len cap] 22) := by
  go_enter Try.func46, Try.ntmps46
  go_wp2
  go_ret
  exact ⟨rfl, rfl⟩

section
variable {P : Program} {G : Fence} {nF : Nat} {ops : Array Oper} {rest : List Oper} {o : Oper} {a : Act} {Q : Exit → Act → World → Prop} {w : World}
/-- append in a walk within a fence. -/
theorem wpListIn_append {T e : TypeId} {z : Value} {sz bytes : Nat} (S : SlT P T e z sz bytes)
    (hgd : o.guard = none) (s x : Operand) (ho : o.op = .call { callee := .builtin .append, args := #[s, x], argTypes := #[T, T] }) {v vx : Value} {n m : Nat} {xs news : List Value}
    (hs : a.eval s = v) (hvx : a.eval x = vx) (hown : Own w e sz v n xs) (hx : Rd w sz vx m news) (h1 : ∀ u ∈ news, u.oneCell' = true) (hf : Fits (n + m) bytes)
    (h : ∀ v' w', Own w' e sz v' (n + m) (xs ++ news) → Kept (fun b => v.ownBlock = some b) w w' → (∀ b, v'.ownBlock = some b → v.ownBlock = some b ∨ w.heap.size ≤ b) →
      wpListIn G nF P ops Q rest (a.put o.dst v') w') : wpListIn G nF P ops Q (o :: rest) a w := by
  refine wpListIn_plain hgd fun K hK' => ?_
  obtain ⟨v', w', hr, h2, h3, h4, _⟩ := run_append_gen (P := P) S o.type hown hx h1 hf
  unfold Oper.wpIn
  refine ⟨?_, ?_⟩
  · simp [Oper.about, ho, resolve, Target.leads, Sem.run_pure]
  · rw [Oper.semAt_plain G _ _ (by rw [ho]; intro c hc'; cases hc')]
    unfold execOp
    simp only [ho, resolve, invoke, builtin, Sem.run_bind, Sem.run_pure, Result.andThen_ok, List.map_toArray, List.map_cons, List.map_nil, hs, hvx, hr]
    exact hK' _ _ (h v' w' h2 h3 h4)
end

theorem keepsFrom_of {B : Nat} {G : Nat → Prop} {W W' : World} (hk : Kept G W W') (hG : ∀ b, G b → b < B ∨ W.heap.size ≤ b) : KeepsFrom B W W' :=
  ⟨hk.size, fun k o hB ho _ => (hk.block k (heap_lt ho) (fun g => by
    have := heap_lt ho
    rcases hG k g with h | h <;> omega)).trans ho⟩

theorem keepB_of {b Bs : Nat} {G : Nat → Prop} {W W' : World} (hk : Kept G W W') (h1 : b < W.heap.size) (h2 : Bs < W.heap.size) (h3 : ¬ G b) (h4 : ¬ G Bs) : KeepB b Bs W W' := ⟨hk.size, hk.block b h1 h3, hk.block Bs h2 h4⟩

theorem kept_putObj (w : World) (D : Nat) (o : Obj) : Kept (fun b => b = D) w (w.putObj D o) :=
  ⟨rfl, rfl, rfl, by simp [World.putObj], fun i _ hi => World.putObj_heap_other hi⟩

end Go.Proofs.Ytncloielmfplpaa
