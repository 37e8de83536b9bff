/- The reference's index: a list, looked through from its beginning. -/
import Derived.Test.YtibenffndoknpaaSameI
import Derived.Test.YtibenffndoknpaaFirstsPure
namespace Go.Proofs.Ytibenffndoknpaa
open Go.RowKit
set_option linter.unusedVariables false
set_option linter.unusedSimpArgs false

/-- p points at a reference that holds ks; F: its blocks. -/
def RefIs (w : World) (p : Value) (F : Nat → Prop) (ks : List Int) : Prop :=
  ∃ rb v, p = .pointer (some ⟨rb, 0, none⟩) ∧ w.heap[rb]? = some (.cells #[v] 38 (0, 0)) ∧ Own w 3 1 v ks.length (cellsOf encI ks) ∧ v.ownBlock ≠ some rb ∧ ∀ b, F b ↔ (b = rb ∨ v.ownBlock = some b)

theorem RefIs.lt {w : World} {p : Value} {F : Nat → Prop} {ks : List Int} (h : RefIs w p F ks) {b : Nat} (hb : F b) : b < w.heap.size := by
  obtain ⟨rb, v, rfl, h1, h2, h3, hF⟩ := h
  rcases (hF b).1 hb with rfl | hv
  · exact heap_lt h1
  · exact h2.lt hv

theorem RefIs.frame {w w' : World} {p : Value} {F G : Nat → Prop} {ks : List Int} (h : RefIs w p F ks) (hk : Kept G w w') (hd : ∀ b, F b → ¬ G b) : RefIs w' p F ks := by
  obtain ⟨rb, v, rfl, h1, h2, h3, hF⟩ := h
  exact ⟨rb, v, rfl, (hk.block rb (heap_lt h1) (hd _ ((hF _).2 (.inl rfl)))).trans h1, h2.frame hk (fun b hb => hd _ ((hF _).2 (.inr hb))), h3, hF⟩

theorem RefIs.made (w : World) : RefIs (w.alloc (.cells #[.slice none 0 0] 38)) (.pointer (some ⟨w.heap.size, 0, none⟩)) (fun b => b = w.heap.size) [] :=
  ⟨w.heap.size, .slice none 0 0, rfl, (by show (w.heap.push _)[w.heap.size]? = _; simp), Own.nil _ _ _, by simp [Value.ownBlock], fun b => by simp [Value.ownBlock]⟩

theorem RefIs.grow {w w2 : World} {rb : Nat} {v v2 : Value} {ks : List Int} {k : Int} {o : Obj} (hrb : rb < w.heap.size) (hv : v.ownBlock ≠ some rb)
    (hk2 : Kept (fun b => v.ownBlock = some b) (w.alloc o) w2) (hown2 : Own w2 3 1 v2 (ks.length + 1) (cellsOf encI ks ++ (encI k).cells.toList)) (hb2 : ∀ b, v2.ownBlock = some b → v.ownBlock = some b ∨ (w.alloc o).heap.size ≤ b)
    (e2 : w2.heap[rb]? = some (.cells #[v] 38 (0, 0))) :
    ∃ F', RefIs (w2.setCell ⟨rb, 0, none⟩ v2) (.pointer (some ⟨rb, 0, none⟩)) F' (ks ++ [k]) ∧ Kept (fun b => b = rb ∨ v.ownBlock = some b) w (w2.setCell ⟨rb, 0, none⟩ v2) ∧ ∀ b, F' b → (b = rb ∨ v.ownBlock = some b) ∨ w.heap.size ≤ b := by
  have hn2 : v2.ownBlock ≠ some rb := fun h => by
    rcases hb2 _ h with h | h
    · exact hv h
    · simp at h; omega
  refine ⟨fun b => b = rb ∨ v2.ownBlock = some b, ⟨rb, v2, rfl, ?_, ?_, hn2, fun _ => Iff.rfl⟩, ?_, ?_⟩
  · have := heap_set (o := 0) e2 v2
    simpa using this
  · rw [List.length_append, cellsOf_append, cellsOf_one]
    exact hown2.setCell hn2 _
  · exact Kept.setCell (((Kept.refl _ w).alloc o).trans' hk2 (fun i _ h => .inr h)) (fun _ => .inl rfl) _
  · rintro b (h | h)
    · exact .inl (.inl h)
    · rcases hb2 b h with h | h
      · exact .inl (.inr h)
      · simp at h; right; omega

theorem idxOf_of_take {ks : List Int} {k : Int} {j : Nat} (hj : j < ks.length) (h : k ∉ ks.take j) (e : ks[j] = k) : ks.idxOf k = j := by
  have hs : ks = ks.take j ++ k :: ks.drop (j + 1) := by
    rw [← e]
    simp
  have hl : (ks.take j).length = j := by simp; omega
  rw [hs, List.idxOf_append, if_neg h, hl]
  simp

section
variable {w : World} {p : Value} {F : Nat → Prop} {ks : List Int}

set_option maxHeartbeats 400000 in
theorem refFind (h : RefIs w p F ks) (k : Int) :
    Calls Try.prog 18 #[p, .int .i64 k] w fun e w' => e = .returned (.tuple #[.int .i64 (if k ∈ ks then ks.idxOf k else 0 : Nat), .int .i64 (if k ∈ ks then 0 else 6)]) ∧ w = w' := by
  obtain ⟨rb, v, rfl, h1, hown, hv1, hF⟩ := h
  obtain ⟨a, c, rfl, a1, a2, a3⟩ := hown.shape
  have c1 : w.cell? ⟨rb, 0, none⟩ = some (.slice a ks.length c) := cell_of h1 rfl
  have HR := Lib.hid hown.rd
  have A3 := Lib.hid a3
  unfold maxLen at a2
  generalize hn0 : (if k ∈ ks then ks.idxOf k else 0) = n0
  generalize he0 : (if k ∈ ks then (0 : Int) else 6) = e0
  have HN0 := Lib.hid hn0
  have HE0 := Lib.hid he0
  clear h1 hown hv1 hF a3 hn0 he0
  go_enter Try.func18, Try.ntmps18
  go_wp2
  go_loop [6] (fun i => ∃ j : Nat, j ≤ ks.length ∧ i = .int .i64 j ∧ Hid (k ∉ ks.take j)) (fun i => ks.length - (intOf i).toNat)
  case atStart => exact ⟨0, Nat.zero_le _, rfl, Lib.hid (by simp)⟩
  case round =>
    obtain ⟨j, hj, rfl, hno⟩ := hrel
    by_cases hlt : j < ks.length
    · cases a with
      | none => exact absurd (A3.out rfl).1 (by omega)
      | some ad =>
        have cx := rdCellI HR.out hlt
        dsimp only at cx
        by_cases he : ks[j] = k
        · have HI := Lib.hid (idxOf_of_take hlt hno.out he)
          have HM := Lib.hid (show k ∈ ks from he ▸ List.getElem_mem hlt)
          have b2 : (ks[j] == k) = true := by simp [he]
          clear he
          go_wp2
          go_ret2
          have e1 := HN0.out
          have e2 := HE0.out
          rw [if_pos HM.out, HI.out] at e1
          rw [if_pos HM.out] at e2
          rw [← e1, ← e2]
          exact ⟨rfl, rfl⟩
        · have HN := Lib.hid (show k ∉ ks.take (j + 1) from by
            rw [List.take_succ_eq_append_getElem hlt]
            simp only [List.mem_append, List.mem_singleton, not_or]
            exact ⟨hno.out, fun h => he h.symm⟩)
          have b2 : (ks[j] == k) = false := by simp [he]
          clear he
          go_wp2
          go_round
          case rel => exact ⟨j + 1, by omega, by go_num, HN⟩
          case measure => simp [intOf]; omega
    · obtain rfl : j = ks.length := by omega
      have HM := Lib.hid (show k ∉ ks from by have := hno.out; rwa [List.take_length] at this)
      clear hno
      go_wp2
      go_ret2
      have e1 := HN0.out
      have e2 := HE0.out
      rw [if_neg HM.out] at e1 e2
      rw [← e1, ← e2]
      exact ⟨rfl, rfl⟩

theorem refNumber (h : RefIs w p F ks) (k : Int) (hf : Fits (ks.length + 1) 8) :
    Calls Try.prog 17 #[p, .int .i64 k] w fun e w' => e = .returned (.int .i64 (ks.idxOf k : Nat)) ∧ ∃ F', RefIs w' p F' (putK ks k) ∧ Kept F w w' ∧ ∀ b, F' b → F b ∨ w.heap.size ≤ b := by
  have h0 := h
  have hfind := refFind h k
  obtain ⟨rb, v, rfl, h1, hown, hv1, hF⟩ := h
  obtain ⟨a, c, rfl, a1, a2, a3⟩ := hown.shape
  have c1 : w.cell? ⟨rb, 0, none⟩ = some (.slice a ks.length c) := cell_of h1 rfl
  have f1 : w.frozen? ⟨rb, 0, none⟩ = false := frozen_of h1
  have HO := Lib.hid hown
  have H0 := Lib.hid h0
  have H1 := Lib.hid h1
  have HV := Lib.hid hv1
  have HF := Lib.hid hF
  have HT := Lib.hid hf
  have hmax : ks.length + 1 ≤ 9223372036854775807 := by have := hf.1; unfold maxLen at this; omega
  by_cases hk : k ∈ ks
  · simp only [if_pos hk] at hfind
    have HE := Lib.hid (show putK ks k = ks by simp [putK, hk])
    have HH := Lib.hid hfind
    clear h0 h1 hown hv1 hF a3 hfind hf hk
    generalize ks.idxOf k = n at HH ⊢
    go_enter Try.func17, Try.ntmps17
    go_wp2_with fail
    refine HH.out.mono ?_
    rintro e w' ⟨rfl, rfl⟩
    go_wp2
    go_ret
    exact ⟨rfl, F, by rw [HE.out]; exact H0.out, Kept.refl _ _, fun b hb => .inl hb⟩
  · simp only [if_neg hk] at hfind
    have HE := Lib.hid (show putK ks k = ks ++ [k] by simp [putK, hk])
    have HI := Lib.hid (show ks.idxOf k = ks.length from List.idxOf_eq_length hk)
    have HH := Lib.hid hfind
    rw [HI.out]
    clear h0 h1 hown hv1 hF a3 hfind hf hk
    go_enter Try.func17, Try.ntmps17
    go_wp2_with fail
    refine HH.out.mono ?_
    rintro e w' ⟨rfl, rfl⟩
    go_wp2_with (first
      | (at_builtin; refine wpList_append slInt (v := .slice a ks.length c) (vx := .slice (some ⟨w.heap.size, 0, none⟩) 1 1) (news := (encI k).cells.toList) (m := 1) rfl _ _ rfl rfl rfl (HO.out.alloc _) (Own.rd (Own.fresh (n := 1) (by rfl) (by decide))) (by simp [encI, Value.cells, Value.oneCell']) HT.out ?_; intro v2 w2 hown2 hk2 hb2 _; obtain ⟨a2, c2, rfl, _, _, _⟩ := hown2.shape; have e2 := Lib.hid ((hk2.block rb (by have := heap_lt H1.out; simp; omega) HV.out).trans (heap_alloc H1.out _)); have d2 : w2.cell? ⟨rb, 0, none⟩ = some (.slice a ks.length c) := cell_of e2.out rfl; have f2 : w2.frozen? ⟨rb, 0, none⟩ = false := frozen_of e2.out))
    go_ret
    obtain ⟨F', r1, r2, r3⟩ := RefIs.grow (heap_lt H1.out) HV.out hk2 hown2 hb2 e2.out
    refine ⟨by go_num, F', by rw [HE.out]; exact r1, r2.mono (fun i _ h => (HF.out i).2 h), fun b hb => (r3 b hb).imp (HF.out b).2 id⟩

theorem refAt_bad (h : RefIs w p F ks) (n : Int) (hn : n < 0 ∨ (ks.length : Int) ≤ n) :
    Calls Try.prog 19 #[p, .int .i64 n] w fun e w' => e = .returned (.tuple #[.int .i64 0, .int .i64 2]) ∧ w = w' := by
  obtain ⟨rb, v, rfl, h1, hown, hv1, hF⟩ := h
  obtain ⟨a, c, rfl, a1, a2, a3⟩ := hown.shape
  have c1 : w.cell? ⟨rb, 0, none⟩ = some (.slice a ks.length c) := cell_of h1 rfl
  unfold maxLen at a2
  clear h1 hown hv1 hF a3
  rcases hn with hn | hn <;>
  · go_enter Try.func19, Try.ntmps19
    go_wp2
    go_ret2
    exact ⟨rfl, rfl⟩

theorem refAt_ok (h : RefIs w p F ks) (n : Int) (h0 : 0 ≤ n) (h2 : n < (ks.length : Int)) :
    Calls Try.prog 19 #[p, .int .i64 n] w fun e w' => ∃ k, ks[n.toNat]? = some k ∧ e = .returned (.tuple #[.int .i64 k, .int .i64 0]) ∧ w = w' := by
  obtain ⟨j, rfl⟩ := Int.eq_ofNat_of_zero_le h0
  obtain ⟨rb, v, rfl, h1, hown, hv1, hF⟩ := h
  obtain ⟨a, c, rfl, a1, a2, a3⟩ := hown.shape
  have c1 : w.cell? ⟨rb, 0, none⟩ = some (.slice a ks.length c) := cell_of h1 rfl
  unfold maxLen at a2
  have hlt : j < ks.length := by omega
  cases a with
  | none => exact absurd (a3 rfl).1 (by omega)
  | some ad =>
    have cx := rdCellI hown.rd hlt
    dsimp only at cx
    have HG := Lib.hid (show ks[j]? = some ks[j] from by simp [hlt])
    clear h1 hown hv1 hF a3 h0
    go_enter Try.func19, Try.ntmps19
    go_wp2
    go_ret2
    exact ⟨_, by rw [Int.toNat_natCast]; exact HG.out, rfl, rfl⟩

theorem refList (h : RefIs w p F ks) (hf : Fits ks.length 8) :
    Calls Try.prog 20 #[p] w fun e w' => ∃ v, e = .returned v ∧ Fresh w w' 3 1 v ks.length (cellsOf encI ks) := by
  obtain ⟨rb, v, rfl, h1, hown, hv1, hF⟩ := h
  obtain ⟨a, c, rfl, a1, a2, a3⟩ := hown.shape
  have c1 : w.cell? ⟨rb, 0, none⟩ = some (.slice a ks.length c) := cell_of h1 rfl
  have c2 : (w.alloc (.cells #[] 3)).cell? ⟨rb, 0, none⟩ = some (.slice a ks.length c) := cell_of (heap_alloc h1 _) rfl
  have HO := Lib.hid hown
  have HT : Hid (Fits (0 + ks.length) 8) := Lib.hid (by rw [Nat.zero_add]; exact hf)
  clear h1 hown hv1 hF a3
  go_enter Try.func20, Try.ntmps20
  go_wp2_with (first
    | (at_builtin; refine wpList_append slInt (v := .slice (some ⟨w.heap.size, 0, none⟩) 0 0) (vx := .slice a ks.length c) (news := cellsOf encI ks) (n := 0) (m := ks.length) (xs := []) rfl _ _ rfl rfl rfl (Own.fresh (cs := #[]) (n := 0) (by rfl) (by decide)) (HO.out.alloc _).rd (oneI ks) HT.out ?_; intro v7 w7 ho7 hk7 hb7 _; obtain ⟨a7, c7, rfl, u1, u2, u3⟩ := ho7.shape))
  go_ret
  refine ⟨_, rfl, by simpa using ho7, ((Kept.refl _ w).alloc (.cells #[] 3)).trans' hk7 (fun i hi h => by simp [Value.ownBlock] at h; omega), fun b hb => ?_⟩
  rcases hb7 b (by simpa using hb) with h | h
  · simp [Value.ownBlock] at h; omega
  · simp at h; omega

end

end Go.Proofs.Ytibenffndoknpaa
