/- The walk of IndexFirsts. -/
import Derived.Test.YtibenffndoknpaaArgsI
import Derived.Test.YtibenffndoknpaaIdxAtI
import Derived.Test.YtibenffndoknpaaFirstsPure
import Derived.Test.YtibenffndoknpaaWakes3
namespace Go.Proofs.Ytibenffndoknpaa
open Go.ChangeShapes Go.WideShapes Go.ChangeAt Go.RowKit
set_option linter.unusedVariables false
set_option linter.unusedSimpArgs false

/-- What holds at the head of a round. -/
def FirstsInv (w wr : World) (p nv : Value) (xs : List Int) (k : Nat) : Prop :=
  ∃ F, IdxI wr p F (firsts (xs.take k)) ∧ (∀ b, F b → w.heap.size ≤ b) ∧ Below w.heap.size w wr ∧
    Own wr 3 1 nv k (cellsOf encI ((xs.take k).map fun x => ((firsts (xs.take k)).idxOf x : Nat))) ∧ ∀ b, nv.ownBlock = some b → w.heap.size ≤ b ∧ ¬ F b

theorem FirstsInv.step {w wr w4 wj w6 : World} {p nv v2 : Value} {xs : List Int} {k n : Nat} {ks : List Int} {F F' : Nat → Prop} {o : Obj} (hk : k < xs.length) (hks : ks = firsts (xs.take k))
    (hn : n = ks.idxOf xs[k]) (hB : Below w.heap.size w wr) (hF : ∀ b, F b → w.heap.size ≤ b) (hown : Own wr 3 1 nv k (cellsOf encI ((xs.take k).map fun x => ((ks.idxOf x : Nat) : Int)))) (hd : ∀ b, nv.ownBlock = some b → w.heap.size ≤ b ∧ ¬ F b)
    (hI' : IdxI w4 p F' (putK ks xs[k])) (hk' : Kept F wr w4) (hF' : ∀ b, F' b → F b ∨ wr.heap.size ≤ b) (hkj : Kept (fun _ => False) w4 wj) (hk2 : Kept (fun b => nv.ownBlock = some b) (wj.alloc o) w6)
    (hown2 : Own w6 3 1 v2 (k + 1) (cellsOf encI ((xs.take k).map fun x => ((ks.idxOf x : Nat) : Int)) ++ [.int .i64 n])) (hb2 : ∀ b, v2.ownBlock = some b → nv.ownBlock = some b ∨ (wj.alloc o).heap.size ≤ b) : FirstsInv w w6 p v2 xs (k + 1) := by
  have b4 : Below w.heap.size w w4 := below_step hB (Nat.le_refl _) hk' hF
  have bj : Below w.heap.size w wj := below_step b4 (Nat.le_refl _) hkj (fun _ h => h.elim)
  have s1 := hk'.size
  have s2 := hkj.size
  have hnF : ∀ b, F' b → ¬ nv.ownBlock = some b := fun b h1 h2 => by
    have := hown.lt h2
    rcases hF' b h1 with h | h
    · exact (hd b h2).2 h
    · omega
  have hst : ∀ x, x ∈ xs.take k → (putK ks xs[k]).idxOf x = ks.idxOf x := fun x hx => idxOf_putK (by rw [hks]; exact mem_firsts.2 hx)
  have hnew : (putK ks xs[k]).idxOf xs[k] = ks.idxOf xs[k] := by
    by_cases h : xs[k] ∈ ks
    · exact idxOf_putK h
    · simp [putK, h, List.idxOf_append, List.idxOf_eq_length h]
  have hI4 : IdxI wj p F' (putK ks xs[k]) := hI'.frame hkj (fun _ _ => id)
  refine ⟨F', ?_, ?_, ?_, ?_, ?_⟩
  · rw [firsts_take hk, ← hks]
    exact (hI4.frame ((Kept.refl (fun _ => False) wj).alloc o) (fun _ _ => id)).frame hk2 hnF
  · intro b h
    rcases hF' b h with h | h
    · exact hF b h
    · exact Nat.le_trans hB.size h
  · exact below_step (bj.alloc bj.size o) (Nat.le_refl _) hk2 (fun b h => (hd b h).1)
  · rw [firsts_take hk, ← hks, List.take_succ_eq_append_getElem hk, List.map_append, cellsOf_append]
    simp only [List.map_cons, List.map_nil, hnew, ← hn]
    rw [List.map_congr_left (fun x hx => by rw [hst x hx])]
    exact hown2
  · intro b h
    rcases hb2 b h with h' | h'
    · exact ⟨(hd b h').1, fun hf => hnF b hf h'⟩
    · simp at h'
      refine ⟨Nat.le_trans bj.size (by omega), fun hf => ?_⟩
      have := hI4.lt hf
      omega

set_option maxRecDepth 100000 in
set_option maxHeartbeats 2000000 in
theorem indexFirsts_walk (v : Value) (xs : List Int) (w : World) (hx : Rd w 1 v xs.length (cellsOf encI xs)) (hreach : xs.length * 8 ≤ 140737488351232) :
    Calls Try.prog 3 #[v] w fun e w' => e = .returned (.bool true) ∧ Below w.heap.size w w' := by
  obtain ⟨_, a, c, rfl, ka1, ka2, ka3, _⟩ := id hx
  have HX := Lib.hid hx
  have KA := Lib.hid ka3
  clear hx ka3
  go_enter Try.func3, Try.ntmps3
  go_wp2_with fail
  refine (wakes_any w).mono ?_
  rintro e w1 ⟨rfl, hb1⟩
  go_wp2_with fail
  refine (idxNewI w1).mono ?_
  rintro e w2 ⟨p, F0, rfl, hI0, hk0, hF0, b, rfl⟩
  have HI0 := Lib.hid hI0
  have HF0 := Lib.hid (show ∀ b, F0 b → w.heap.size ≤ b from fun b h => Nat.le_trans hb1.size (hF0 b h))
  have hb2 := below_step hb1 (Nat.le_refl _) hk0 (fun _ h => h.elim)
  clear hI0 hF0
  go_wp2_with fail
  go_loopw [4, 5] (fun nv i wr => ∃ k : Nat, k ≤ xs.length ∧ i = .int .i64 k ∧ FirstsInv w wr (.pointer (some ⟨b, 0, none⟩)) nv xs k) (fun _ i _ => xs.length - (intOf i).toNat)
  case atStart => exact ⟨0, Nat.zero_le _, rfl, F0, HI0.out, HF0.out, hb2, Own.nil _ _ _, by simp [Value.ownBlock]⟩
  case round =>
    obtain ⟨k, hk, rfl, F, hI, hF, hb, hown, hdis⟩ := hrel
    by_cases hlt : k < xs.length
    · cases a with
      | none => exact absurd (KA.out rfl).1 (by omega)
      | some ad =>
        have cx := rdCellI (HX.out.later hb) hlt
        dsimp only at cx
        obtain ⟨na, nc, rfl, hn1, hn2, hn3⟩ := hown.shape
        have HO := Lib.hid hown
        have HN3 := Lib.hid hn3
        clear hn3
        unfold maxLen at hn2 ka2
        have HD := Lib.hid hdis
        have HF := Lib.hid hF
        have HB := Lib.hid hb
        have HI := Lib.hid hI
        clear hown hdis hF hb hI
        obtain ⟨ks, hks⟩ : ∃ ks, ks = firsts (xs.take k) := ⟨_, rfl⟩
        have HK := Lib.hid hks
        have hm : ks.length ≤ k := by have := length_firsts (xs.take k); rw [← hks] at this; simp at this; omega
        rw [← hks] at HI HO
        clear hks
        go_wp2_with fail
        refine (idxLenI HI.out).mono ?_
        rintro e w3 ⟨rfl, rfl⟩
        go_wp2_with fail
        refine (idxNumberI HI.out xs[k] (fits_of (by omega) (by decide))).mono ?_
        rintro e w4 ⟨rfl, F', hI', hk', hF'⟩
        have HI' := Lib.hid hI'
        have HF' := Lib.hid hF'
        have HG := Lib.hid (getElem_putK (ks := ks) (k := xs[k]))
        have HB' := Lib.hid (below_step HB.out (Nat.le_refl _) hk' HF.out)
        have hlen : (putK ks xs[k]).length = if xs[k] ∈ ks then ks.length else ks.length + 1 := length_putK _ _
        clear hI' hF'
        have hcase : (xs[k] ∈ ks ∧ ks.idxOf xs[k] < ks.length) ∨ (xs[k] ∉ ks ∧ ks.idxOf xs[k] = ks.length) := by
          by_cases h : xs[k] ∈ ks
          · exact .inl ⟨h, List.idxOf_lt_length_iff.2 h⟩
          · exact .inr ⟨h, List.idxOf_eq_length h⟩
        have HS := Lib.hid (firsts_take hlt)
        have HST := Lib.hid (show ∀ x, x ∈ ks → (putK ks xs[k]).idxOf x = ks.idxOf x from fun x hx => idxOf_putK hx)
        have HMM := Lib.hid (show ∀ x, x ∈ xs.take k → x ∈ ks from fun x hx => by rw [HK.out]; exact mem_firsts.2 hx)
        have HNEW := Lib.hid (show (putK ks xs[k]).idxOf xs[k] = ks.idxOf xs[k] from by
          by_cases h : xs[k] ∈ ks
          · exact idxOf_putK h
          · simp [putK, h, List.idxOf_append, List.idxOf_eq_length h])
        rw [← HK.out] at HS
        obtain ⟨n, hn⟩ : ∃ n, n = ks.idxOf xs[k] := ⟨_, rfl⟩
        have HN := Lib.hid hn
        rw [← hn] at hcase HG HNEW ⊢
        clear hn
        have HNL := Lib.hid (show n < (putK ks xs[k]).length from (List.getElem?_eq_some_iff.1 HG.out).1)
        have hnm : n ≤ ks.length := by rcases hcase with h | h <;> omega
        have ck := (HX.out.later HB'.out)
        have cx4 := rdCellI ck hlt
        dsimp only at cx4
        have CK := Lib.hid ck
        clear ck
        rcases hcase with ⟨hin, hnl⟩ | ⟨hin, hnl⟩
        case' inl =>
          rw [if_pos hin] at hlen
          have HL := Lib.hid hlen
          clear hin hlen
          go_wp2_with (go_at_call 10; refine (idxLenI HI'.out).mono ?_; rintro e w5 ⟨rfl, rfl⟩; rw [HL.out])
        case' inr =>
          rw [if_neg hin] at hlen
          have HL := Lib.hid hlen
          clear hin hlen
          subst hnl
          go_wp2_with (go_at_call 10; refine (idxLenI HI'.out).mono ?_; rintro e w5 ⟨rfl, rfl⟩; rw [HL.out])
        all_goals
          refine (idxAtI_ok HI'.out _ (by omega) (by have := HNL.out; omega)).mono ?_
          rintro e w5 ⟨kk, hkk, rfl, rfl⟩
          have hkk' : kk = xs[k] := by
            have h1 := HG.out
            rw [Int.toNat_natCast, h1] at hkk
            simpa using hkk.symm
          subst hkk'
          clear hkk
          unfold encI
          have HO4 := Lib.hid (HO.out.frame hk' (fun b hb => (HD.out b hb).2))
          go_wp2_with fail
          go_loopw [11] (fun j wr' => ∃ j' : Nat, j' ≤ k ∧ j = .int .i64 j' ∧ Kept (fun _ => False) w4 wr') (fun j _ => k - (intOf j).toNat)
          case atStart => exact ⟨0, Nat.zero_le _, rfl, Kept.refl _ _⟩
          case round =>
            obtain ⟨j, hj, rfl, hkj⟩ := hrel
            by_cases hjk : j < k
            · by_cases hj200 : k < 200
              · cases na with
                | none => exact absurd (HN3.out rfl).1 (by omega)
                | some nad =>
                  have hjx : j < xs.length := by omega
                  have HOJ := HO4.out.frame hkj (fun _ _ => id)
                  have cxj := rdCellI (CK.out.frame hkj (fun _ _ => id)) hjx
                  have cxk := rdCellI (CK.out.frame hkj (fun _ _ => id)) hlt
                  have cnj := rdCellI HOJ.rd (k := j) (by simp; omega)
                  simp only [List.getElem_map, List.getElem_take] at cxj cxk cnj
                  have hmj : xs[j] ∈ ks := HMM.out _ (List.mem_iff_getElem.2 ⟨j, by simp; omega, by simp⟩)
                  have hn' := HN.out
                  clear HOJ
                  by_cases he : xs[j] = xs[k]
                  · have b1 : (((ks.idxOf xs[j] : Nat) : Int) == (ks.idxOf xs[k] : Nat)) = true := by simp [he]
                    have b2 : (xs[j] == xs[k]) = true := by simp [he]
                    rw [← hn'] at b1
                    clear he hn' hmj
                    go_wp2
                    go_quiet (fail)
                    go_wp2
                    go_roundw
                    case rel => exact ⟨j + 1, by omega, by go_num, hkj.drewN _⟩
                    case measure => simp [intOf]; omega
                  · have b1 : (((ks.idxOf xs[j] : Nat) : Int) == (ks.idxOf xs[k] : Nat)) = false := by
                      rw [beq_eq_false_iff_ne]
                      intro h
                      exact he (idxOf_inj hmj (by omega))
                    have b2 : (xs[j] == xs[k]) = false := by simp [he]
                    rw [← hn'] at b1
                    clear he hn' hmj
                    go_wp2
                    go_quiet (fail)
                    go_wp2
                    go_roundw
                    case rel => exact ⟨j + 1, by omega, by go_num, hkj.drewN _⟩
                    case measure => simp [intOf]; omega
              · go_wp2_with (at_builtin; refine wpList_append slInt (v := .slice na k nc) (vx := .slice (some ⟨wr.heap.size, 0, none⟩) 1 1) (news := [.int .i64 _]) (m := 1) rfl _ _ rfl rfl rfl ((HO4.out.frame hkj (fun _ _ => id)).alloc _) (Own.rd (Own.fresh (n := 1) (by rfl) (by decide))) (by simp [Value.oneCell']) (fits_of (by omega) (by decide)) ?_; intro v2 w6 hown2 hk2 hb2 _)
                go_roundw
                case rel => exact ⟨k + 1, by omega, by go_num, FirstsInv.step hlt HK.out HN.out HB.out HF.out HO.out HD.out HI'.out hk' HF'.out hkj hk2 hown2 hb2⟩
                case measure => simp [intOf]; omega
            · go_wp2_with (at_builtin; refine wpList_append slInt (v := .slice na k nc) (vx := .slice (some ⟨wr.heap.size, 0, none⟩) 1 1) (news := [.int .i64 _]) (m := 1) rfl _ _ rfl rfl rfl ((HO4.out.frame hkj (fun _ _ => id)).alloc _) (Own.rd (Own.fresh (n := 1) (by rfl) (by decide))) (by simp [Value.oneCell']) (fits_of (by omega) (by decide)) ?_; intro v2 w6 hown2 hk2 hb2 _)
              go_roundw
              case rel => exact ⟨k + 1, by omega, by go_num, FirstsInv.step hlt HK.out HN.out HB.out HF.out HO.out HD.out HI'.out hk' HF'.out hkj hk2 hown2 hb2⟩
              case measure => simp [intOf]; omega
    · go_wp2_with fail
      go_ret
      exact ⟨rfl, hb⟩

theorem indexFirsts_calls : LawCalls Try.prog 3 Try.f3 := by
  intro H enc W args ds ps hval hA hsz
  rw [Try.params3] at hA hval hsz
  obtain ⟨v0, d0, rfl, rfl, h0⟩ := trodAll_one hA
  obtain ⟨base, hok⟩ := hval 0 _ v0 rfl rfl
  obtain ⟨xs, hx, _, hr⟩ := open_ints_arg hok h0
  exact indexFirsts_walk v0 xs W hx (hr hsz (j := 0) rfl rfl)

end Go.Proofs.Ytibenffndoknpaa
