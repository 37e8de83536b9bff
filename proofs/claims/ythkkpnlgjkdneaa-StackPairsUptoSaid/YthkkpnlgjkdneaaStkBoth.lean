/- Two stacks with memory of their own (plain; over whatever program). -/
import Derived.Test.YthkkpnlgjkdneaaStkIs
namespace Go.Proofs.Ythkkpnlgjkdneaa
open Go.RowKit
set_option linter.unusedVariables false
set_option linter.unusedSimpArgs false

structure BothS {α β : Type} (T1 e1 : TypeId) (sz1 : Nat) (enc1 : α → Value) (T2 e2 : TypeId) (sz2 : Nat) (enc2 : β → Value) (w : World) (B : Nat) (p r : Value) (F G : Nat → Prop) (limit : Nat) (xs : List α) (ys : List β) : Prop where
  stk : StkIs T1 e1 sz1 enc1 w p F limit xs
  ref : StkIs T2 e2 sz2 enc2 w r G limit ys
  apart : ∀ b, F b → ¬ G b
  newF : ∀ b, F b → B ≤ b
  newG : ∀ b, G b → B ≤ b

section
variable {α β : Type} {T1 e1 : TypeId} {sz1 : Nat} {enc1 : α → Value} {T2 e2 : TypeId} {sz2 : Nat} {enc2 : β → Value} {w w1 : World} {B : Nat} {p r : Value} {F G F' G' : Nat → Prop} {limit : Nat} {xs xs' : List α} {ys ys' : List β}

theorem BothS.kept (h : BothS T1 e1 sz1 enc1 T2 e2 sz2 enc2 w B p r F G limit xs ys) (hk : Kept (fun _ => False) w w1) : BothS T1 e1 sz1 enc1 T2 e2 sz2 enc2 w1 B p r F G limit xs ys :=
  ⟨h.stk.frame hk (fun _ _ => id), h.ref.frame hk (fun _ _ => id), h.apart, h.newF, h.newG⟩

theorem BothS.refStep (h : BothS T1 e1 sz1 enc1 T2 e2 sz2 enc2 w B p r F G limit xs ys) (hB : B ≤ w.heap.size) (r1 : StkIs T2 e2 sz2 enc2 w1 r G' limit ys') (k : Kept G w w1) (g : ∀ b, G' b → G b ∨ w.heap.size ≤ b) :
    BothS T1 e1 sz1 enc1 T2 e2 sz2 enc2 w1 B p r F G' limit xs ys' :=
  ⟨h.stk.frame k h.apart, r1, fun b hf hg => (g b hg).elim (h.apart b hf) (fun h' => by have := h.stk.lt hf; omega), h.newF, fun b hg => (g b hg).elim (h.newG b) (fun h' => Nat.le_trans hB h')⟩

theorem BothS.stkStep (h : BothS T1 e1 sz1 enc1 T2 e2 sz2 enc2 w B p r F G limit xs ys) (hB : B ≤ w.heap.size) (s1 : StkIs T1 e1 sz1 enc1 w1 p F' limit xs') (k : Kept F w w1) (f : ∀ b, F' b → F b ∨ w.heap.size ≤ b) :
    BothS T1 e1 sz1 enc1 T2 e2 sz2 enc2 w1 B p r F' G limit xs' ys :=
  ⟨s1, h.ref.frame k (fun b hg hf => h.apart b hf hg), fun b hf hg => (f b hf).elim (fun h' => h.apart b h' hg) (fun h' => by have := h.ref.lt hg; omega), fun b hf => (f b hf).elim (h.newF b) (fun h' => Nat.le_trans hB h'), h.newG⟩

end

end Go.Proofs.Ythkkpnlgjkdneaa
