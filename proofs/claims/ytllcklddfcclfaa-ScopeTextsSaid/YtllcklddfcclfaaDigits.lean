/- The walk of digits and Text. -/
import Derived.Test.YtllcklddfcclfaaFacts4
import Derived.Test.YtllcklddfcclfaaIdxIs
import Derived.Test.YtllcklddfcclfaaText
namespace Go.Proofs.Ytllcklddfcclfaa
open Go.RowKit
set_option linter.unusedVariables false
set_option linter.unusedSimpArgs false

def encB (d : UInt8) : Value := .int .u8 (d.toNat : Int)

theorem cellsOf_encB (xs : List UInt8) : cellsOf encB xs = xs.map encB := by
  induction xs with
  | nil => rfl
  | cons x xs ih =>
    show (encB x).cells.toList ++ cellsOf encB xs = _
    rw [ih]; rfl

/-- bs turned round as far as i places from both ends. -/
def revTo (bs : List UInt8) (i : Nat) : List UInt8 := (List.range bs.length).map fun t => if t < i ∨ bs.length ≤ t + i then bs.getD (bs.length - 1 - t) 0 else bs.getD t 0

theorem revTo_length (bs : List UInt8) (i : Nat) : (revTo bs i).length = bs.length := by simp [revTo]

theorem revTo_get {bs : List UInt8} {i t : Nat} (h : t < (revTo bs i).length) : (revTo bs i)[t] = if t < i ∨ bs.length ≤ t + i then bs.getD (bs.length - 1 - t) 0 else bs.getD t 0 := by simp [revTo]

theorem revTo_zero (bs : List UInt8) : revTo bs 0 = bs := by
  apply List.ext_getElem (by simp [revTo])
  intro t h1 h2
  rw [revTo_get, if_neg (by omega)]
  simp [List.getD, h2]

theorem revTo_all {bs : List UInt8} {i : Nat} (h : bs.length ≤ 2 * i + 1) : revTo bs i = bs.reverse := by
  apply List.ext_getElem (by simp [revTo])
  intro t h1 h2
  rw [revTo_length] at h1
  rw [revTo_get, List.getElem_reverse]
  split
  · simp [List.getD, show bs.length - 1 - t < bs.length by omega]
  · have : bs.length - 1 - t = t := by omega
    simp [List.getD, h1, this]

theorem revTo_step {bs : List UInt8} {i : Nat} (h : 2 * i + 2 ≤ bs.length) :
    revTo bs (i + 1) = ((revTo bs i).set i ((revTo bs i)[bs.length - 1 - i]'(by rw [revTo_length]; omega))).set (bs.length - 1 - i) ((revTo bs i)[i]'(by rw [revTo_length]; omega)) := by
  apply List.ext_getElem (by simp [revTo])
  intro t h1 h2
  rw [revTo_length] at h1
  rw [revTo_get, List.getElem_set]
  by_cases e1 : bs.length - 1 - i = t
  · rw [if_pos e1, revTo_get, if_pos (by omega), if_neg (by omega)]
    congr 1
    omega
  · rw [if_neg e1, List.getElem_set]
    by_cases e2 : i = t
    · rw [if_pos e2, revTo_get, if_pos (by omega), if_neg (by omega)]
      congr 1
      omega
    · rw [if_neg e2, revTo_get]
      by_cases e3 : t < i ∨ bs.length ≤ t + i
      · rw [if_pos e3, if_pos (by omega)]
      · rw [if_neg e3, if_neg (by omega)]

theorem digs_ne (n : Nat) : 0 < (digs n).length := by
  rw [digs]
  split <;> simp

theorem encB_digit {k : Nat} (h : k ≤ 9) : encB (UInt8.ofNat (48 + k)) = .int .u8 (48 + (k : Int)) := by
  rw [encB, digit_toNat h]; simp

set_option maxRecDepth 100000 in
set_option maxHeartbeats 2000000 in
theorem digits_text (n : Nat) (w : World) (hn : n ≤ 9223372036854775807) :
    Calls Try.prog 48 #[.int .i64 n] w fun e w' => e = .returned (.string ⟨(digs n).toArray⟩) ∧ Kept (fun _ => False) w w' := by
  have hlen : (digs n).length ≤ 19 := digs_length (k := 19) (by omega) (by omega)
  have HL := Lib.hid hlen
  obtain ⟨D, hD⟩ : ∃ D, D = digs n := ⟨_, rfl⟩
  rw [← hD] at HL ⊢
  have HD := Lib.hid hD
  clear hD hlen
  go_enter Try.func48, Try.ntmps48
  go_wp2
  go_loopw [0, 3] (fun x b wr => ∃ (m : Nat) (bs : List UInt8), m ≤ n ∧ x = .int .i64 m ∧ Hid (D = digs m ++ bs.reverse ∧ Own wr 5 1 b bs.length (cellsOf encB bs) ∧ Kept (fun _ => False) w wr ∧ ∀ i, b.ownBlock = some i → w.heap.size ≤ i)) (fun x _ _ => (intOf x).toNat)
  case atStart => exact ⟨n, [], Nat.le_refl _, rfl, Lib.hid ⟨by simp [HD.out], Own.nil _ _ _, Kept.refl _ _, by simp [Value.ownBlock]⟩⟩
  case round =>
    obtain ⟨m, bs, hm, rfl, hH⟩ := hrel
    obtain ⟨h1, h2, h3, h4⟩ := hH.out
    have hl : bs.length + 1 ≤ 19 := by have := HL.out; rw [h1] at this; have := digs_ne m; simp at *; omega
    obtain ⟨a, c, rfl, a1, a2, a3⟩ := h2.shape
    have HT : Hid (Fits (bs.length + 1) 1) := Lib.hid (fits_of (by omega) (by omega))
    have H2 := Lib.hid h2
    have H3 := Lib.hid h3
    have H4 := Lib.hid h4
    clear hH h2 h3 h4 a3
    by_cases h9 : m ≤ 9
    · go_wp2_with (at_builtin; refine wpList_append slU8 (v := .slice a bs.length c) (vx := .slice (some ⟨wr.heap.size, 0, none⟩) 1 1) (news := [.int .u8 _]) (m := 1) rfl _ _ rfl rfl rfl (H2.out.alloc _) (Own.rd (Own.fresh (n := 1) (by rfl) (by decide))) (by simp [Value.oneCell']) HT.out ?_; intro v2 w2 hown2 hk2 hb2 _; obtain ⟨a2, c2, rfl, _, _, _⟩ := hown2.shape)
      obtain ⟨B, hB⟩ : ∃ B, B = bs ++ [UInt8.ofNat (48 + m)] := ⟨_, rfl⟩
      have hBr : B.reverse = D := by rw [hB, h1, digs_small h9]; simp
      obtain ⟨L, hL⟩ : ∃ L, L = bs.length + 1 := ⟨_, rfl⟩
      have hBL : B.length = L := by rw [hB, hL]; simp
      have q1 : Own w2 5 1 (.slice a2 L c2) L (cellsOf encB B) := by
        rw [hB, hL, cellsOf_append, cellsOf_one, encB_digit h9]
        exact hown2
      have q2 : Kept (fun _ => False) w w2 := (H3.out.alloc (.cells #[.int .u8 (48 + (m : Int))] 5)).trans' hk2 (fun i hi h => by have := H4.out i h; omega)
      have q3 : ∀ i, (Value.slice a2 L c2).ownBlock = some i → w.heap.size ≤ i := fun i h => by
        rw [hL] at h
        rcases hb2 i h with h | h
        · exact H4.out i h
        · have := H3.out.size; simp at h; omega
      have hL0 : 0 < L := by omega
      rw [← hL] at hl ⊢
      have Q1 := Lib.hid q1
      have Q2 := Lib.hid q2
      have Q3 := Lib.hid q3
      have HBR := Lib.hid hBr
      have HBL := Lib.hid hBL
      clear hown2 hk2 hb2 H2 H3 H4 HT q1 q2 q3 hB hBr hBL h1 hL
      go_wp2_with fail
      go_loopw [4] (fun i wx => ∃ t : Nat, t ≤ L / 2 ∧ i = .int .i64 t ∧ Hid (Own wx 5 1 (.slice a2 L c2) L (cellsOf encB (revTo B t)) ∧ Kept (fun _ => False) w wx)) (fun i _ => L / 2 - (intOf i).toNat)
      case atStart => exact ⟨0, Nat.zero_le _, rfl, Lib.hid ⟨by rw [revTo_zero]; exact Q1.out, Q2.out⟩⟩
      case round =>
        obtain ⟨t, ht, rfl, hQ⟩ := hrel
        obtain ⟨ho, hk⟩ := hQ.out
        have hlr : (revTo B t).length = L := by rw [revTo_length, HBL.out]
        by_cases hlt : t < L / 2
        · have htL : t < (revTo B t).length := by omega
          have htR : L - 1 - t < (revTo B t).length := by omega
          obtain ⟨g, off, cap, hv, _, _, hcell, hfr, _⟩ := ho.elt (by omega)
          simp only [Value.slice.injEq] at hv
          obtain ⟨rfl, _, rfl⟩ := hv
          have c1 := hcell t (encB (revTo B t)[t]) (by rw [cellsOf_encB]; simp [htL])
          have c2 := hcell (L - 1 - t) (encB (revTo B t)[L - 1 - t]) (by rw [cellsOf_encB]; simp [htR])
          have f1 := hfr (off + t)
          have f2 := hfr (off + (L - 1 - t))
          have HO := Lib.hid ho
          have HK := Lib.hid hk
          have HR := Lib.hid hlr
          generalize hy1 : (revTo B t)[t] = y1 at c1
          generalize hy2 : (revTo B t)[L - 1 - t] = y2 at c2
          have Y1 := Lib.hid hy1
          have Y2 := Lib.hid hy2
          unfold encB at c1 c2
          clear ho hk hlr hcell hfr hQ hy1 hy2
          go_wp2
          refine ⟨⟨t + 1, by omega, by simp, Lib.hid ⟨?_, ?_⟩⟩, ?_⟩
          · have h3 := (HO.out.setAt (j := t) (by omega) (encB y2)).setAt (j := L - 1 - t) (by omega) (encB y1)
            have h4 : revTo B (t + 1) = ((revTo B t).set t y2).set (L - 1 - t) y1 := by
              rw [revTo_step (by rw [HBL.out]; omega)]
              simp only [HBL.out]
              rw [Y1.out, Y2.out]
            rw [h4]
            rw [cellsOf_encB] at h3 ⊢
            rw [List.map_set, List.map_set]
            exact h3
          · have := Q3.out g rfl
            exact (HK.out.setCell (fun h => absurd h (by show ¬ g < _; omega)) _).setCell (fun h => absurd h (by show ¬ g < _; omega)) _
          · simp [intOf]; omega
        · obtain rfl : t = L / 2 := by omega
          have hrv : revTo B (L / 2) = D := by rw [revTo_all (by rw [HBL.out]; omega), HBR.out]
          rw [hrv] at ho
          have hDL : D.length = L := by rw [← hrv]; exact hlr
          obtain ⟨g, off, cap, hv, _, _, hcell, hfr, _⟩ := ho.elt (by omega)
          simp only [Value.slice.injEq] at hv
          obtain ⟨rfl, _, rfl⟩ := hv
          have hcv := run_convert_bytes_back (P := Try.prog) wr 115 9 5 ⟨g, off, none⟩ c2 D Try.underlying115 Try.underlying5 Try.underlying9 (fun j hj => by
            have := hcell j (encB D[j]) (by rw [cellsOf_encB]; simp [hj])
            rw [show (⟨g, off, none⟩ : Addr).add j = ⟨g, off + j, none⟩ from by unfold Addr.add; split <;> simp_all]
            exact this)
          rw [hDL] at hcv
          have HK := Lib.hid hk
          clear ho hk hlr hcell hfr hQ hrv hDL
          go_wp2
          go_ret
          exact ⟨rfl, HK.out⟩
    · go_wp2_with (at_builtin; refine wpList_append slU8 (v := .slice a bs.length c) (vx := .slice (some ⟨wr.heap.size, 0, none⟩) 1 1) (news := [.int .u8 _]) (m := 1) rfl _ _ rfl rfl rfl (H2.out.alloc _) (Own.rd (Own.fresh (n := 1) (by rfl) (by decide))) (by simp [Value.oneCell']) HT.out ?_; intro v2 w2 hown2 hk2 hb2 _; obtain ⟨a2, c2, rfl, _, _, _⟩ := hown2.shape)
      have hm10 : m % 10 ≤ 9 := by omega
      have hd : digs m = digs (m / 10) ++ [UInt8.ofNat (48 + m % 10)] := digs_big (by omega)
      refine ⟨⟨m / 10, bs ++ [UInt8.ofNat (48 + m % 10)], by omega, by simp, Lib.hid ⟨by rw [h1, hd]; simp, ?_, ?_, ?_⟩⟩, ?_⟩
      · rw [cellsOf_append, cellsOf_one, encB_digit hm10, List.length_append, List.length_singleton]
        exact hown2
      · exact (H3.out.alloc (.cells #[.int .u8 (48 + (m : Int) % 10)] 5)).trans' hk2 (fun i hi h => by have := H4.out i h; omega)
      · intro i h
        rcases hb2 i h with h | h
        · exact H4.out i h
        · have := H3.out.size; simp at h; omega
      · simp [intOf]; omega

set_option maxRecDepth 100000 in
theorem text_text (n : Int) (w : World) (h0 : -9223372036854775808 ≤ n) (h1 : n ≤ 9223372036854775807) :
    Calls Try.prog 28 #[.int .i64 n] w fun e w' => e = .returned (.string ⟨(textB n).toArray⟩) ∧ Kept (fun _ => False) w w' := by
  by_cases hn : n < 0
  · obtain ⟨m, rfl⟩ : ∃ m : Nat, n = -((m : Int) + 1) := ⟨(-(n + 1)).toNat, by omega⟩
    have ht : textB (-((m : Int) + 1)) = 45 :: (digs m ++ [39]) := by
      rw [textB, if_pos hn]
      congr 3
      omega
    rw [ht]
    have hm : m ≤ 9223372036854775807 := by omega
    have e1 : -(-((m : Int) + 1) + 1) = (m : Int) := by omega
    clear ht
    go_enter Try.func28, Try.ntmps28
    go_wp2_with fail
    refine (digits_text m w hm).mono ?_
    rintro e w1 ⟨rfl, hk⟩
    have hl : (digs m).length ≤ 19 := digs_length (k := 19) (by omega) (by omega)
    obtain ⟨S, hS⟩ : ∃ S : ByteArray, S = ⟨(digs m).toArray⟩ := ⟨_, rfl⟩
    have hSl : S.size ≤ 19 := by rw [hS]; simpa [ByteArray.size] using hl
    have hadd1 := run_string_add_sum (P := Try.prog) w1 ⟨#[45]⟩ S (by have : (⟨#[45]⟩ : ByteArray).size = 1 := rfl; omega)
    obtain ⟨T, hT⟩ : ∃ T : ByteArray, T = ⟨#[45]⟩ ++ S := ⟨_, rfl⟩
    have hTl : T.size ≤ 20 := by rw [hT, ByteArray.size_append]; have : (⟨#[45]⟩ : ByteArray).size = 1 := rfl; omega
    rw [← hT] at hadd1
    have hadd2 := run_string_add_sum (P := Try.prog) w1 T ⟨#[39]⟩ (by have : (⟨#[39]⟩ : ByteArray).size = 1 := rfl; omega)
    obtain ⟨U, hU⟩ : ∃ U : ByteArray, U = T ++ ⟨#[39]⟩ := ⟨_, rfl⟩
    rw [← hU] at hadd2
    have hfin : U = ⟨(45 :: (digs m ++ [39])).toArray⟩ := by
      rw [hU, hT, hS]
      apply ByteArray.ext
      simp [ByteArray.data_append]
    have HFIN := Lib.hid hfin
    rw [← hS]
    clear hl hS hT hU hSl hTl hfin
    go_wp2
    go_ret
    rw [HFIN.out]
    exact ⟨rfl, hk⟩
  · obtain ⟨m, rfl⟩ := Int.eq_ofNat_of_zero_le (by omega : 0 ≤ n)
    have ht : textB (m : Int) = digs m := by rw [textB, if_neg hn]; simp
    rw [ht]
    have hm : m ≤ 9223372036854775807 := by omega
    clear ht hn
    go_enter Try.func28, Try.ntmps28
    go_wp2_with fail
    refine (digits_text m w hm).mono ?_
    rintro e w1 ⟨rfl, hk⟩
    go_wp2
    go_ret
    exact ⟨rfl, hk⟩

end Go.Proofs.Ytllcklddfcclfaa
