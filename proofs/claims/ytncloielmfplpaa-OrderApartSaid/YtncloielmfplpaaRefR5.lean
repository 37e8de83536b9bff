/- The reference of layer 5: Reach. -/
import Derived.Test.YtncloielmfplpaaRefC5
namespace Go.Proofs.Ytncloielmfplpaa
open Go.RowKit
set_option linter.unusedVariables false
set_option linter.unusedSimpArgs false

set_option maxRecDepth 100000 in
set_option maxHeartbeats 3000000 in
theorem refReach5 {w : World} {nv uv : Value} {nodes : List Int} {uses : List (Int × Int)} (hn : Rd w 1 nv nodes.length (cellsOf encI nodes)) (hu : Rd w 2 uv uses.length (cellsOf encPrI uses)) (h1 : nodes.length ≤ 100) (h2 : uses.length ≤ 1000) (x : Int) :
    Calls Try.prog 14 #[nv, uv, .int .i64 x] w fun e w' => ∃ v, e = .returned (.tuple #[v, .int .i64 (rErr nodes uses x)]) ∧ Fresh w w' 3 1 v (rOut nodes uses x).length (cellsOf encI (rOut nodes uses x)) := by
  have HCK := Lib.hid (checks5 hn hu)
  have HPL := Lib.hid (place5 hn x)
  have HLI : Hid (errOf nodes uses = 0 → Calls Try.prog 31 #[nv, uv] w fun e w' => ∃ v F, e = .returned v ∧ LsN w' v F (graphL nodes uses) ∧ Kept (fun _ => False) w w' ∧ ∀ b, F b → w.heap.size ≤ b) := Lib.hid (lists5 hn hu h1 h2)
  obtain ⟨na, nc, rfl, n1, n2, n3⟩ := hn.2
  have N3 := Lib.hid n3.1
  have HN := Lib.hid hn
  clear n3 hn hu
  have hn2 : nc ≤ 9223372036854775807 := by unfold maxLen at n2; omega
  rcases errOf_cases nodes uses with hE | hE
  · have HE := Lib.hid hE
    rw [hE] at HCK
    have HL0 := Lib.hid (HLI.out hE)
    clear hE HLI
    unfold plc at HPL
    by_cases hx : x ∈ nodes
    · have HR : Hid (rErr nodes uses x = 0 ∧ rOut nodes uses x = pick (rb (graphL nodes uses) (nodes.idxOf x)) (nodes.take nodes.length)) := Lib.hid (by
        have h3 : rErr nodes uses x = 0 := by
          unfold rErr
          rw [if_pos HE.out, if_pos hx]
        refine ⟨h3, ?_⟩
        unfold rOut
        rw [if_pos h3, List.take_length])
      have HIX := Lib.hid (List.idxOf_lt_length_of_mem hx)
      rw [if_pos hx] at HPL
      have HGL : Hid ((graphL nodes uses).length = nodes.length ∧ ∀ x z, z ∈ nxt (graphL nodes uses) x → z < nodes.length) := Lib.hid ⟨graphL_length nodes uses, fun x z hz => graphL_lt (errOf_ok HE.out).2 hz⟩
      have hd0 : decide (((nodes.idxOf x : Nat) : Int) < 0) = false := by simp
      generalize nodes.idxOf x = a0 at HR HIX HPL hd0
      generalize graphL nodes uses = L at HR HGL HL0
      clear hx
      go_enter Try.func14, Try.ntmps14
      go_wp2_with fail
      refine HCK.out.mono ?_
      rintro e w1 ⟨rfl, rfl⟩
      go_wp2_with fail
      refine HPL.out.mono ?_
      rintro e w1 ⟨rfl, rfl⟩
      go_wp2_with fail
      refine HL0.out.mono ?_
      rintro e w1 ⟨lv, F, rfl, hLs, hk1, _⟩
      have HLs := Lib.hid hLs
      have HK1 := Lib.hid hk1
      obtain ⟨la0, lc0, rfl, _, _, _⟩ := hLs.shape
      clear hLs hk1
      go_wp2_with fail
      refine (reached5 HGL.out.1 h1 HGL.out.2 HIX.out HLs.out).mono ?_
      rintro e w4 ⟨mv, rfl, om, km, nm⟩
      obtain ⟨ma, mc, rfl, m1, m2, m3⟩ := om.shape
      have hm2 : nodes.length ≤ 9223372036854775807 := by omega
      have Q0 : Hid (Kept (fun _ => False) w w4 ∧ Own w4 4 1 (.slice ma nodes.length mc) nodes.length (marksB nodes.length (rb L a0)) ∧ Own w4 3 1 (.slice none 0 0) (pick (rb L a0) (nodes.take 0)).length (cellsOf encI (pick (rb L a0) (nodes.take 0))) ∧ (∀ b, (Value.slice none 0 0).ownBlock = some b → w.heap.size ≤ b ∧ (Value.slice ma nodes.length mc).ownBlock ≠ some b)) :=
        Lib.hid ⟨HK1.out.trans' km (fun _ _ h => h), om, by simpa [pick, cellsOf] using Own.nil w4 3 1, by simp [Value.ownBlock]⟩
      have HPK := Lib.hid (fun (k : Nat) (hk : k < nodes.length) => pick_take (rb L a0) nodes hk)
      have HPLE := Lib.hid (fun k => pick_le (rb L a0) (nodes.take k))
      generalize rb L a0 = f at Q0 HR HPK HPLE
      have ho0 : pick f (nodes.take 0) = [] := by simp [pick]
      clear om km nm m3 HK1 HL0 HPL HCK
      go_wp2_with fail
      go_loopw [11, 12] (fun lv i wr => ∃ k : Nat, k ≤ nodes.length ∧ i = .int .i64 k ∧ ∃ la lc, lv = .slice la (pick f (nodes.take k)).length lc ∧ Hid (Kept (fun _ => False) w wr ∧ Own wr 4 1 (.slice ma nodes.length mc) nodes.length (marksB nodes.length f) ∧ Own wr 3 1 lv (pick f (nodes.take k)).length (cellsOf encI (pick f (nodes.take k))) ∧ (∀ b, lv.ownBlock = some b → w.heap.size ≤ b ∧ (Value.slice ma nodes.length mc).ownBlock ≠ some b))) (fun _ i _ => nodes.length - (intOf i).toNat)
      case atStart => exact ⟨0, Nat.zero_le _, rfl, none, 0, by rw [ho0]; rfl, Q0⟩
      case round =>
        clear Q0
        obtain ⟨k, hk, rfl, la, lc, rfl, hH⟩ := hrel
        obtain ⟨hK, hO, hL, hB⟩ := hH.out
        by_cases hlt : k < nodes.length
        · cases na with
          | none => exact absurd (N3.out rfl).1 (by omega)
          | some ad =>
            obtain ⟨g', off', cap', hv, _, _, mcl, _, _⟩ := hO.elt (by omega)
            simp only [Value.slice.injEq, true_and] at hv
            obtain ⟨rfl, rfl⟩ := hv
            have m0 : wr.cell? ⟨g', off' + k, none⟩ = some (.bool (f k)) := mcl k _ (marksB_get f hlt)
            have cx := rdOneI (HN.out.frame hK (fun _ _ => id)) hlt
            unfold encI at cx
            have hki : (k : Int) < (nodes.length : Int) := by omega
            have hstep := HPK.out k hlt
            have hple := HPLE.out k
            rw [List.length_take, Nat.min_eq_left hk] at hple
            cases hf : f k with
            | true =>
              rw [hf] at m0 hstep
              simp only [if_true] at hstep
              have HST := Lib.hid hstep
              have HO := Lib.hid hO
              have HL := Lib.hid hL
              have HK := Lib.hid hK
              have HB := Lib.hid hB
              generalize hxe : nodes[k] = y at cx HST
              generalize hpe : pick f (nodes.take k) = Y at HL HB HST hple ⊢
              have HT : Hid (Fits (Y.length + 1) 8) := Lib.hid (fits_of (by omega) (by decide))
              clear hH hO hL hK hB mcl hstep hxe hpe hf
              go_wp2_with (first
                | (at_builtin
                   refine wpList_append slInt (v := .slice la Y.length lc) (vx := .slice (some ⟨wr.heap.size, 0, none⟩) 1 1) (news := [encI y]) (m := 1) rfl _ _ rfl rfl rfl (HL.out.alloc _) (Own.rd (Own.fresh (n := 1) (by rfl) (by decide))) (by simp [encI, Value.oneCell']) HT.out ?_
                   intro v7 w7 ho7 hk7 hb7 _
                   obtain ⟨a7, c7, rfl, _, _, _⟩ := ho7.shape))
              have hsz := HK.out.size
              have Q : Hid (Kept (fun _ => False) w w7 ∧ Own w7 4 1 (.slice (some ⟨g', off', none⟩) nodes.length mc) nodes.length (marksB nodes.length f) ∧ Own w7 3 1 (.slice a7 (Y.length + 1) c7) (pick f (nodes.take (k + 1))).length (cellsOf encI (pick f (nodes.take (k + 1)))) ∧ (∀ b, (Value.slice a7 (Y.length + 1) c7).ownBlock = some b → w.heap.size ≤ b ∧ (Value.slice (some ⟨g', off', none⟩) nodes.length mc).ownBlock ≠ some b)) := Lib.hid (by
                rw [HST.out]
                refine ⟨(HK.out.alloc _).trans' hk7 (fun i hi h => by have := (HB.out i h).1; omega), (HO.out.alloc _).frame hk7 (fun b hb h => (HB.out b h).2 hb), by rw [cellsOf_append, List.length_append]; exact ho7, fun b hb => ?_⟩
                rcases hb7 b hb with h | h
                · exact HB.out b h
                · simp at h
                  exact ⟨by omega, fun h2 => by have := HO.out.lt h2; omega⟩)
              have hlen : (pick f (nodes.take (k + 1))).length = Y.length + 1 := by rw [HST.out, List.length_append]; rfl
              clear ho7 hk7 hb7 hsz
              go_roundw
              case rel => exact ⟨k + 1, by omega, by go_num, a7, c7, by rw [hlen], Q⟩
              case measure => simp [intOf]; omega
            | false =>
              rw [hf] at m0 hstep
              simp only [Bool.false_eq_true, if_false, List.append_nil] at hstep
              rw [← hstep] at hL hB ⊢
              have Q := Lib.hid (And.intro hK (And.intro hO (And.intro hL hB)))
              clear hH hO hL hK hB mcl hf hple cx hstep
              obtain ⟨ln, hln⟩ : ∃ ln, ln = (pick f (nodes.take (k + 1))).length := ⟨_, rfl⟩
              have HLN := Lib.hid hln
              rw [← hln] at Q ⊢
              clear hln
              go_wp2
              go_roundw
              case rel => exact ⟨k + 1, by omega, by go_num, la, lc, by rw [HLN.out], by rw [← HLN.out]; exact Q⟩
              case measure => simp [intOf]; omega
        · obtain rfl : k = nodes.length := by omega
          have HL := Lib.hid (And.intro hK (And.intro hL hB))
          clear hH hO hL hK hB hlt hk
          go_wp2
          go_ret2
          rw [HR.out.1, HR.out.2]
          exact ⟨_, rfl, HL.out.2.1, HL.out.1, fun b hb => (HL.out.2.2 b hb).1⟩
    · have HR : Hid (rErr nodes uses x = 6 ∧ rOut nodes uses x = []) := Lib.hid (by
        have h3 : rErr nodes uses x = 6 := by
          unfold rErr
          rw [if_pos HE.out, if_neg hx]
        exact ⟨h3, rOut_err (by rw [h3]; decide)⟩)
      rw [if_neg hx] at HPL
      clear hx HL0
      go_enter Try.func14, Try.ntmps14
      go_wp2_with fail
      refine HCK.out.mono ?_
      rintro e w1 ⟨rfl, rfl⟩
      go_wp2_with fail
      refine HPL.out.mono ?_
      rintro e w1 ⟨rfl, rfl⟩
      go_wp2
      go_ret2
      rw [HR.out.1, HR.out.2]
      exact ⟨_, rfl, Own.nil _ _ _, Kept.refl _ _, by simp [Value.ownBlock]⟩
  · have hE2 : ((errOf nodes uses) != 0) = true := by rcases hE with h | h <;> rw [h] <;> rfl
    have HR : Hid (rErr nodes uses x = errOf nodes uses ∧ rOut nodes uses x = []) := Lib.hid (by
      have h3 : rErr nodes uses x = errOf nodes uses := by
        unfold rErr
        rw [if_neg (by rcases hE with h | h <;> rw [h] <;> decide)]
      exact ⟨h3, rOut_err (by rw [h3]; rcases hE with h | h <;> rw [h] <;> decide)⟩)
    clear HLI hE
    generalize errOf nodes uses = er at HCK HR hE2
    go_enter Try.func14, Try.ntmps14
    go_wp2_with fail
    refine HCK.out.mono ?_
    rintro e w1 ⟨rfl, rfl⟩
    go_wp2
    go_ret2
    rw [HR.out.1, HR.out.2]
    exact ⟨_, rfl, Own.nil _ _ _, Kept.refl _ _, by simp [Value.ownBlock]⟩

end Go.Proofs.Ytncloielmfplpaa
