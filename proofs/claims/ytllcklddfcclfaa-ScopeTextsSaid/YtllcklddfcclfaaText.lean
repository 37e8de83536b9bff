/- Plain: the digits of a number as bytes, and that two numbers with one text are one. -/
namespace Go.Proofs.Ytllcklddfcclfaa

def digs (n : Nat) : List UInt8 := if h : n ≤ 9 then [UInt8.ofNat (48 + n)] else digs (n / 10) ++ [UInt8.ofNat (48 + n % 10)]
termination_by n
decreasing_by omega

theorem digs_small {n : Nat} (h : n ≤ 9) : digs n = [UInt8.ofNat (48 + n)] := by rw [digs, dif_pos h]
theorem digs_big {n : Nat} (h : 9 < n) : digs n = digs (n / 10) ++ [UInt8.ofNat (48 + n % 10)] := by rw [digs, dif_neg (by omega)]

def valOf (l : List UInt8) : Nat := l.foldl (fun a d => a * 10 + (d.toNat - 48)) 0

theorem valOf_snoc (l : List UInt8) (d : UInt8) : valOf (l ++ [d]) = valOf l * 10 + (d.toNat - 48) := by simp [valOf, List.foldl_append]

theorem digit_toNat {k : Nat} (h : k ≤ 9) : (UInt8.ofNat (48 + k)).toNat = 48 + k := by
  rw [UInt8.toNat_ofNat']
  omega

theorem valOf_digs (n : Nat) : valOf (digs n) = n := by
  induction n using Nat.strongRecOn with
  | _ n ih =>
    by_cases h : n ≤ 9
    · rw [digs_small h]
      simp only [valOf, List.foldl_cons, List.foldl_nil, digit_toNat h]
      omega
    · rw [digs_big (by omega), valOf_snoc, ih (n / 10) (by omega), digit_toNat (by omega)]
      omega

theorem digs_inj {a b : Nat} (h : digs a = digs b) : a = b := by
  have := congrArg valOf h
  rwa [valOf_digs, valOf_digs] at this

theorem digs_mem {n : Nat} : ∀ d ∈ digs n, 48 ≤ d.toNat ∧ d.toNat ≤ 57 := by
  induction n using Nat.strongRecOn with
  | _ n ih =>
    intro d hd
    by_cases h : n ≤ 9
    · rw [digs_small h] at hd
      simp only [List.mem_singleton] at hd
      subst hd
      rw [digit_toNat h]
      omega
    · rw [digs_big (by omega)] at hd
      simp only [List.mem_append, List.mem_singleton] at hd
      rcases hd with hd | rfl
      · exact ih (n / 10) (by omega) d hd
      · rw [digit_toNat (by omega)]
        omega

theorem digs_length {n k : Nat} (h : n < 10 ^ k) (hk : 0 < k) : (digs n).length ≤ k := by
  induction k generalizing n with
  | zero => omega
  | succ k ih =>
    by_cases h9 : n ≤ 9
    · rw [digs_small h9]; simp
    · rw [digs_big (by omega)]
      have hk0 : 0 < k := by
        rcases Nat.eq_zero_or_pos k with rfl | h'
        · simp at h; omega
        · exact h'
      have := @ih (n / 10) (by rw [Nat.pow_succ] at h; omega) hk0
      simp only [List.length_append, List.length_singleton]
      omega

/-- The text of a number: its digits; of one below nought a sign, the digits of -(n+1), a stroke. -/
def textB (n : Int) : List UInt8 := if n < 0 then 45 :: (digs (-(n + 1)).toNat ++ [39]) else digs n.toNat

theorem textB_inj {a b : Int} (h : textB a = textB b) : a = b := by
  unfold textB at h
  split at h <;> split at h
  · simp only [List.cons.injEq, true_and] at h
    have := digs_inj (List.append_cancel_right h)
    omega
  · have h1 : (45 : UInt8) ∈ digs b.toNat := by rw [← h]; simp
    have := digs_mem _ h1
    simp at this
  · have h1 : (45 : UInt8) ∈ digs a.toNat := by rw [h]; simp
    have := digs_mem _ h1
    simp at this
  · have := digs_inj h
    omega

theorem textB_ne_nil (n : Int) : textB n ≠ [] := by
  unfold textB
  split
  · simp
  · intro h
    rw [digs] at h
    split at h <;> simp at h

theorem textB_length {n : Int} (h1 : -9223372036854775808 ≤ n) (h2 : n ≤ 9223372036854775807) : (textB n).length ≤ 21 := by
  unfold textB
  split
  · have := @digs_length (-(n + 1)).toNat 19 (by omega) (by omega)
    simp only [List.length_cons, List.length_append, List.length_nil]
    omega
  · have := @digs_length n.toNat 19 (by omega) (by omega)
    omega

end Go.Proofs.Ytllcklddfcclfaa
