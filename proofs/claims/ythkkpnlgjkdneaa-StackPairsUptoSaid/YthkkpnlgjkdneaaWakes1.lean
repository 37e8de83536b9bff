/- The fixed run of layer 1. -/
import Derived.Test.YthkkpnlgjkdneaaStkPI
import Derived.Test.YthkkpnlgjkdneaaStkPS
import Derived.Test.YthkkpnlgjkdneaaStkPTk
import Derived.Test.YthkkpnlgjkdneaaLawFrame
namespace Go.Proofs.Ythkkpnlgjkdneaa
open Go.RowKit
set_option linter.unusedVariables false
set_option linter.unusedSimpArgs false

theorem apart_step {α : Type} {T e : TypeId} {sz : Nat} {enc : α → Value} {w : World} {p : Value} {F F' G : Nat → Prop} {limit : Nat} {xs : List α} (hG : StkIs T e sz enc w p G limit xs) (h : ∀ b, F b → ¬ G b) (hn : ∀ b, F' b → F b ∨ w.heap.size ≤ b) : ∀ b, F' b → ¬ G b :=
  fun b hb hg => (hn b hb).elim (fun h' => h b h' hg) (fun h' => by have := hG.lt hg; omega)

/-- Three stacks apart from each other, in memory that is new since B. -/
def Tri (w : World) (B : Nat) (p q r : Value) (xs : List Int) (ys : List (List UInt8)) (zs : List Tok) : Prop :=
  ∃ F G H, StkI w p F 2 xs ∧ StkS w q G 1 ys ∧ StkT w r H 1 zs ∧ (∀ b, F b → ¬ G b) ∧ (∀ b, F b → ¬ H b) ∧ (∀ b, G b → ¬ H b) ∧ (∀ b, F b → B ≤ b) ∧ (∀ b, G b → B ≤ b) ∧ ∀ b, H b → B ≤ b

theorem Tri.kept {w w' : World} {B : Nat} {p q r : Value} {xs : List Int} {ys : List (List UInt8)} {zs : List Tok} (h : Tri w B p q r xs ys zs) (hk : Kept (fun _ => False) w w') : Tri w' B p q r xs ys zs := by
  obtain ⟨F, G, H, h1, h2, h3, rest⟩ := h
  exact ⟨F, G, H, h1.frame hk (fun _ _ => id), h2.frame hk (fun _ _ => id), h3.frame hk (fun _ _ => id), rest⟩

section
variable {w : World} {B : Nat} {p q r : Value} {xs : List Int} {ys : List (List UInt8)} {zs : List Tok}

theorem triPush1 (h : Tri w B p q r xs ys zs) (hB : B ≤ w.heap.size) (vx : Value) (l : List Int) (hx : Rd w 1 vx l.length (cellsOf encI l)) :
    Calls Try.prog 12 #[p, vx] w fun e w' => (2 < xs.length + l.length ∧ e = .returned (.int .i64 3) ∧ Tri w' B p q r xs ys zs ∧ Kept (fun b => B ≤ b) w w') ∨ (xs.length + l.length ≤ 2 ∧ e = .returned (.int .i64 0) ∧ Tri w' B p q r (xs ++ l) ys zs ∧ Kept (fun b => B ≤ b) w w') := by
  have h' := h
  obtain ⟨F, G, H, h1, h2, h3, d1, d2, d3, n1, n2, n3⟩ := h
  refine (stkPushI h1 vx l hx).mono ?_
  rintro e w' (⟨hl, rfl, hk⟩ | ⟨hl, rfl, F', s, k, n⟩)
  · exact .inl ⟨hl, rfl, h'.kept hk, hk.mono (fun _ _ h => h.elim)⟩
  · refine .inr ⟨hl, rfl, ⟨F', G, H, s, h2.frame k (fun b hb h => d1 b h hb), h3.frame k (fun b hb h => d2 b h hb), apart_step h2 d1 n, apart_step h3 d2 n, d3, fun b hb => (n b hb).elim (n1 b) (fun h => Nat.le_trans hB h), n2, n3⟩, k.mono (fun b _ h => n1 b h)⟩

theorem triPush2 (h : Tri w B p q r xs ys zs) (hB : B ≤ w.heap.size) (vx : Value) (l : List (List UInt8)) (hx : Rd w 1 vx l.length (cellsOf encS l)) (hl : ys.length + l.length ≤ 1) :
    Calls Try.prog 22 #[q, vx] w fun e w' => e = .returned (.int .i64 0) ∧ Tri w' B p q r xs (ys ++ l) zs ∧ Kept (fun b => B ≤ b) w w' := by
  obtain ⟨F, G, H, h1, h2, h3, d1, d2, d3, n1, n2, n3⟩ := h
  refine (stkPushS h2 vx l hx).mono ?_
  rintro e w' (⟨hl', rfl, hk⟩ | ⟨_, rfl, G', s, k, n⟩)
  · omega
  · refine ⟨rfl, ⟨F, G', H, h1.frame k (fun b hb h => d1 b hb h), s, h3.frame k (fun b hb h => d3 b h hb), fun b hb hg => apart_step h1 (fun b h1 h2 => d1 b h2 h1) n b hg hb, d2, apart_step h3 d3 n, n1, fun b hb => (n b hb).elim (n2 b) (fun h => Nat.le_trans hB h), n3⟩, k.mono (fun b _ h => n2 b h)⟩

theorem triPush3 (h : Tri w B p q r xs ys zs) (hB : B ≤ w.heap.size) (vx : Value) (l : List Tok) (hx : Rd w 4 vx l.length (cellsOf encT l)) (hl : zs.length + l.length ≤ 1) :
    Calls Try.prog 31 #[r, vx] w fun e w' => e = .returned (.int .i64 0) ∧ Tri w' B p q r xs ys (zs ++ l) ∧ Kept (fun b => B ≤ b) w w' := by
  obtain ⟨F, G, H, h1, h2, h3, d1, d2, d3, n1, n2, n3⟩ := h
  refine (stkPushT h3 vx l hx).mono ?_
  rintro e w' (⟨hl', rfl, hk⟩ | ⟨_, rfl, H', s, k, n⟩)
  · omega
  · refine ⟨rfl, ⟨F, G, H', h1.frame k (fun b hb h => d2 b hb h), h2.frame k (fun b hb h => d3 b hb h), s, d1, fun b hb hg => apart_step h1 (fun b h1 h2 => d2 b h2 h1) n b hg hb, fun b hb hg => apart_step h2 (fun b h1 h2 => d3 b h2 h1) n b hg hb, n1, n2, fun b hb => (n b hb).elim (n3 b) (fun h => Nat.le_trans hB h)⟩, k.mono (fun b _ h => n3 b h)⟩

end

set_option maxRecDepth 100000 in
set_option maxHeartbeats 1000000 in
theorem wakes_any (w : World) : Calls Try.prog 9 #[] w fun e w' => e = .returned (.bool true) ∧ Below w.heap.size w w' := by
  go_enter Try.func9, Try.ntmps9
  go_wp2_with fail
  refine (stkNewI 2 w).mono ?_
  rintro e w1 (⟨h, _⟩ | ⟨l1, hl1, _, rfl, s1, k1⟩)
  · omega
  obtain rfl : l1 = 2 := by omega
  obtain ⟨a, ha⟩ : ∃ a, a = w.heap.size := ⟨_, rfl⟩
  have A1 := Lib.hid s1
  have K1 := Lib.hid k1
  have HA := Lib.hid ha
  rw [← ha] at A1 ⊢
  clear s1 k1 hl1 ha
  go_wp2_with fail
  refine (stkNewS 1 w1).mono ?_
  rintro e w2 (⟨h, _⟩ | ⟨l2, hl2, _, rfl, s2, k2⟩)
  · omega
  obtain rfl : l2 = 1 := by omega
  obtain ⟨b, hb⟩ : ∃ b, b = w1.heap.size := ⟨_, rfl⟩
  have A2 := Lib.hid (A1.out.frame k2 (fun _ _ => id))
  have B2 := Lib.hid s2
  have K2 := Lib.hid (K1.out.trans k2)
  have HB := Lib.hid hb
  rw [← hb] at B2 ⊢
  clear s2 k2 hl2 hb
  go_wp2_with fail
  refine (stkNewT 1 w2).mono ?_
  rintro e w3 (⟨h, _⟩ | ⟨l3, hl3, _, rfl, s3, k3⟩)
  · omega
  obtain rfl : l3 = 1 := by omega
  obtain ⟨c, hc⟩ : ∃ c, c = w2.heap.size := ⟨_, rfl⟩
  have K3 := Lib.hid (show Below w.heap.size w w3 from below_step (Below.refl _ w) (Nat.le_refl _) (K2.out.trans k3) (fun _ h => h.elim))
  have T3 := Lib.hid (show Tri w3 w.heap.size (.pointer (some ⟨a, 0, none⟩)) (.pointer (some ⟨b, 0, none⟩)) (.pointer (some ⟨w2.heap.size, 0, none⟩)) [] [] [] from
    ⟨_, _, _, A2.out.frame k3 (fun _ _ => id), B2.out.frame k3 (fun _ _ => id), s3, (fun x h1 h2 => by have := A1.out.lt (b := a) rfl; have := HB.out; omega), (fun x h1 h2 => by have := A2.out.lt (b := a) rfl; omega), (fun x h1 h2 => by have := B2.out.lt (b := b) rfl; omega),
      (fun x h => by have := HA.out; omega), (fun x h => by have := HB.out; have := K1.out.size; omega), fun x h => by have := K2.out.size; omega⟩)
  rw [← hc] at T3 ⊢
  clear s3 k3 hl3 A1 A2 B2 K1 K2 HA HB hc
  go_wp2_with fail
  refine (triPush1 (T3.out.kept ((Kept.refl (fun _ => False) w3).alloc _)) (K3.out.alloc K3.out.size _).size _ [5, 6] (Own.rd (Own.fresh (n := 2) (by rfl) (by decide)))).mono ?_
  rintro e w4 (⟨h, _⟩ | ⟨_, rfl, t, k⟩)
  · simp at h
  have T4 := Lib.hid t
  have K4 := Lib.hid (below_step (K3.out.alloc K3.out.size _) (Nat.le_refl _) k (fun _ h => h))
  clear t k
  go_wp2_with fail
  refine (triPush1 (T4.out.kept ((Kept.refl (fun _ => False) w4).alloc _)) (K4.out.alloc K4.out.size _).size _ [7] (Own.rd (Own.fresh (n := 1) (by rfl) (by decide)))).mono ?_
  rintro e w5 (⟨_, rfl, t, k⟩ | ⟨h, _⟩)
  case inr => simp at h
  have T5 := Lib.hid t
  have K5 := Lib.hid (below_step (K4.out.alloc K4.out.size _) (Nat.le_refl _) k (fun _ h => h))
  clear t k
  go_wp2_with fail
  refine (triPush2 (T5.out.kept ((Kept.refl (fun _ => False) w5).alloc _)) (K5.out.alloc K5.out.size _).size _ [[120]] (Own.rd (Own.fresh (n := 1) (by rfl) (by decide))) (by simp)).mono ?_
  rintro e w6 ⟨rfl, t, k⟩
  have T6 := Lib.hid t
  have K6 := Lib.hid (below_step (K5.out.alloc K5.out.size _) (Nat.le_refl _) k (fun _ h => h))
  clear t k
  go_wp2_with fail
  refine (triPush3 (T6.out.kept ((Kept.refl (fun _ => False) w6).alloc _)) (K6.out.alloc K6.out.size _).size _ [(3, [], 0, 0)] (Own.rd (Own.fresh (n := 1) (by rfl) (by decide))) (by simp)).mono ?_
  rintro e w7 ⟨rfl, t, k⟩
  have K7 := Lib.hid (below_step (K6.out.alloc K6.out.size _) (Nat.le_refl _) k (fun _ h => h))
  obtain ⟨F, G, H, s1, s2, s3, d1, d2, d3, n1, n2, n3⟩ := t
  have S1 := Lib.hid s1
  have S2 := Lib.hid s2
  have S3 := Lib.hid s3
  clear s1 s2 s3 d1 d2 d3 n1 n2 n3 k
  simp only [List.nil_append] at S1 S2 S3
  go_wp2_with fail
  refine (stkPeekI S1.out 1).mono ?_
  rintro e w8 (⟨h, _⟩ | ⟨j, hj, hjn, rfl, rfl⟩)
  · simp at h
  obtain rfl : j = 0 := by simp at hjn; omega
  simp only [List.getElem_cons_zero, encI]
  clear hj hjn
  go_wp2_with fail
  refine (stkPeekS S2.out 0).mono ?_
  rintro e w8 (⟨h, _⟩ | ⟨j, hj, hjn, rfl, rfl⟩)
  · simp at h
  obtain rfl : j = 0 := by simp at hjn; omega
  simp only [List.getElem_cons_zero, encS]
  clear hj hjn
  go_wp2_with fail
  refine (stkPeekT S3.out 0).mono ?_
  rintro e w8 (⟨h, _⟩ | ⟨j, hj, hjn, rfl, k8⟩)
  · simp at h
  obtain rfl : j = 0 := by simp at hjn; omega
  simp only [List.getElem_cons_zero, encT]
  have S8 := Lib.hid (S1.out.frame k8 (fun _ _ => id))
  have K8 := Lib.hid (below_step K7.out (Nat.le_refl _) k8 (fun _ h => h.elim))
  clear hj hjn k8
  go_wp2_with fail
  refine (stkLimitI (S8.out.frame ((Kept.refl (fun _ => False) w8).alloc _) (fun _ _ => id))).mono ?_
  rintro e w9 ⟨rfl, rfl⟩
  go_wp2
  go_ret
  exact ⟨rfl, K8.out.alloc K8.out.size _⟩

end Go.Proofs.Ythkkpnlgjkdneaa
