/- The reference of layer 5: lists, Reach. -/
import Derived.Test.YtncloielmfplpaaRefB5
import Derived.Test.YtncloielmfplpaaParts5
namespace Go.Proofs.Ytncloielmfplpaa
open Go.RowKit Go.Shelf
set_option linter.unusedVariables false
set_option linter.unusedSimpArgs false

theorem entersPlace (args : Array Value) (w : World) : (callFunc 33 args).run Try.prog w = .ok (.enter 33 args) w :=
  enters_of Try.func33 (by kernel_rfl) rfl args w

theorem take_prs {nodes : List Int} {uses : List (Int × Int)} {k : Nat} (hk : k < uses.length) : (prs nodes uses).take (k + 1) = (prs nodes uses).take k ++ [(nodes.idxOf uses[k].1, nodes.idxOf uses[k].2)] := by
  have hl : (prs nodes uses).length = uses.length := by simp [prs]
  rw [List.take_succ_eq_append_getElem (by omega)]
  simp [prs]

set_option maxRecDepth 100000 in
set_option maxHeartbeats 3000000 in
theorem lists5 {w : World} {nv uv : Value} {nodes : List Int} {uses : List (Int × Int)} (hn : Rd w 1 nv nodes.length (cellsOf encI nodes)) (hu : Rd w 2 uv uses.length (cellsOf encPrI uses)) (h1 : nodes.length ≤ 100) (h2 : uses.length ≤ 1000) (he : errOf nodes uses = 0) :
    Calls Try.prog 31 #[nv, uv] w fun e w' => ∃ v F, e = .returned v ∧ LsN w' v F (graphL nodes uses) ∧ Kept (fun _ => False) w w' ∧ ∀ b, F b → w.heap.size ≤ b := by
  obtain ⟨hnd, hall⟩ := errOf_ok he
  obtain ⟨na, nc, rfl, n1, n2, n3⟩ := hn.2
  obtain ⟨ua, uc, rfl, u1, u2, u3⟩ := hu.2
  have HN := Lib.hid hn
  have HU := Lib.hid hu
  have U3 := Lib.hid u3.1
  have HAL := Lib.hid hall
  unfold maxLen at n2 u2
  have HPL : Hid (∀ wx, Kept (fun b => w.heap.size ≤ b) w wx → ∀ k ∈ nodes, Calls Try.prog 33 #[.slice na nodes.length nc, .int .i64 k] wx fun e w' => e = .returned (.int .i64 (nodes.idxOf k : Nat)) ∧ wx = w') := Lib.hid fun wx hk k hm => by
    have := place5 (hn.kept (w' := wx) (fun b _ hb => hk.block b hb (by omega))) k
    unfold plc at this
    rwa [if_pos hm] at this
  obtain ⟨wm, hrun, hmo, hmk, hms⟩ := run_make_one slRows rfl w nodes.length nodes.length (Nat.le_refl _) (by omega) (by unfold maxLen; omega)
  replace hrun := hrun _ _ rfl rfl
  have HS0 : Hid (∃ F, LsN wm (.slice (some ⟨w.heap.size, 0, none⟩) nodes.length nodes.length) F (adjP nodes.length ((prs nodes uses).take 0)) ∧ Kept (fun b => w.heap.size ≤ b) w wm ∧ ∀ b, F b → w.heap.size ≤ b) := Lib.hid
    ⟨_, by rw [List.take_zero, adjP_nil]; exact LsIs.made hmo, hmk.mono (fun _ _ h => h.elim), fun b hb => by simp [Value.ownBlock] at hb; omega⟩
  clear hn hu n3 u3 hmo hmk hnd hall he
  go_enter Try.func31, Try.ntmps31
  go_wp2_with fail
  clear hrun hms
  go_loopw [6] (fun x wr => ∃ k : Nat, k ≤ uses.length ∧ x = .int .i64 k ∧ Hid (∃ F, LsN wr (.slice (some ⟨w.heap.size, 0, none⟩) nodes.length nodes.length) F (adjP nodes.length ((prs nodes uses).take k)) ∧ Kept (fun b => w.heap.size ≤ b) w wr ∧ ∀ b, F b → w.heap.size ≤ b)) (fun x _ => uses.length - (intOf x).toNat)
  case atStart => exact ⟨0, Nat.zero_le _, rfl, HS0⟩
  case round =>
    clear HS0
    obtain ⟨k, hk, rfl, hH⟩ := hrel
    obtain ⟨F, hL, hK, hF⟩ := hH.out
    by_cases hlt : k < uses.length
    · have hki : (k : Int) < (uses.length : Int) := by omega
      cases ua with
      | none => exact absurd (U3.out rfl).1 (by omega)
      | some ad =>
        obtain ⟨p0, p1⟩ := rdPrI (HU.out.kept (w' := wr) (fun b _ hb => hK.block b hb (by omega))) hlt
        have HST := Lib.hid (take_prs (nodes := nodes) hlt)
        obtain ⟨m1, m2⟩ := HAL.out _ (List.getElem_mem hlt)
        generalize uses[k] = u at p0 p1 HST m1 m2
        obtain ⟨va, vb⟩ := u
        simp only [encI] at p0 p1 HST m1 m2
        have C1 := Lib.hid (HPL.out wr hK va m1)
        have C2 := Lib.hid (HPL.out wr.drew hK.drew vb m2)
        have hzn : nodes.idxOf va < nodes.length := List.idxOf_lt_length_of_mem m1
        have hz2 : nodes.idxOf vb < nodes.length := List.idxOf_lt_length_of_mem m2
        generalize nodes.idxOf va = z at C1 HST hzn
        generalize nodes.idxOf vb = z2 at C2 HST hz2
        have hlen : ((prs nodes uses).take k).length ≤ 1000 := by rw [List.length_take]; omega
        generalize (prs nodes uses).take k = A at hL HST hlen
        have hil : z < (adjP nodes.length A).length := by rw [adjP_length]; exact hzn
        have hsn := adjP_snoc (n := nodes.length) A (a := z) (b := z2) hil
        have HAA : Hid (adjP nodes.length ((prs nodes uses).take (k + 1)) = (adjP nodes.length A).set z ((adjP nodes.length A)[z] ++ [z2])) := Lib.hid (by rw [HST.out]; exact hsn)
        obtain ⟨g', off', cap', v, hgv, hq1, hq2', r0, rf0, ro, hFg, hggl, hvF, hvg⟩ := hL.row hil
        clear hq1 hq2'
        rw [adjP_length] at hgv
        simp only [Value.slice.injEq, Option.some.injEq, Addr.mk.injEq, true_and, and_true] at hgv
        obtain ⟨⟨rfl, rfl⟩, hgv2⟩ := hgv
        clear hgv2
        rw [Nat.zero_add] at r0 rf0
        have hrl := adjP_le (n := nodes.length) A z
        rw [nxt_get hil] at hrl
        have HPUT := Lib.hid (fun (o : Obj) (w2 : World) (v2 : Value) => (hL.frame ((Kept.refl (fun _ => False) wr).alloc o) (fun _ _ => id)).put (w2 := w2) (v2 := v2) (i := z) hil rfl (v := v) (Y := (adjP nodes.length A)[z] ++ [z2]) (by rw [Nat.zero_add]; exact ((Kept.refl (fun _ => False) wr).alloc o).cell r0 id))
        generalize (adjP nodes.length A)[z] = R at ro hrl HPUT HAA
        obtain ⟨xa, xc, rfl, v1, v2, hv3⟩ := ro.shape
        have HRO := Lib.hid ro
        have HK := Lib.hid hK
        have HFB := Lib.hid hF
        have HT : Hid (Fits (R.length + 1) 8) := Lib.hid (fits_of (by omega) (by decide))
        have hil2 : (z : Int) < (nodes.length : Int) := by omega
        have HV : Hid ((Value.slice xa R.length xc).ownBlock ≠ some w.heap.size) := Lib.hid hvg
        have HSZ := Lib.hid hggl
        unfold maxLen at v2
        clear ro hFg hvF hvg hrl hil hL hH hK hF hsn hv3 hlen m1 m2 hlt hz2
        go_wp2_with fail
        refine C1.out.mono ?_
        rintro e w4 ⟨rfl, rfl⟩
        go_wp2_with fail
        go_region_law (first
          | (refine step_call (v := .int .i64 (z2 : Int)) (xv := .slice na nodes.length nc) (yv := .int .i64 vb) rfl 33 _ _ _ rfl entersPlace rfl rfl C2.out ?_)
          | (refine step_append slInt (v := .slice xa R.length xc) (n := R.length) (m := 1) (xs := cellsOf encN R) (news := [.int .i64 (z2 : Int)]) rfl _ _ rfl rfl rfl ?_ ?_ ?_ HT.out ?_
             · exact HRO.out.alloc _
             · exact Own.rd (Own.fresh (n := 1) (by rfl) (by decide))
             · simp [Value.oneCell']
             intro x2 w2 hown2 hk2 hb2
             obtain ⟨a2, c2, rfl, _, _, _⟩ := hown2.shape
             have hk2' : Kept (fun b => (Value.slice xa R.length xc).ownBlock = some b) (wr.alloc (.cells #[.int .i64 (z2 : Int)] 3)) w2 := ⟨hk2.os, hk2.tape, hk2.output, hk2.size, hk2.block⟩
             have hb2' : ∀ b, (Value.slice a2 (R.length + 1) c2).ownBlock = some b → (Value.slice xa R.length xc).ownBlock = some b ∨ (wr.alloc (.cells #[.int .i64 (z2 : Int)] 3)).heap.size ≤ b := hb2
             have d2 : w2.cell? ⟨w.heap.size, z, none⟩ = some (.slice xa R.length xc) := hk2'.cell (((Kept.refl (fun _ => False) wr).alloc _).cell r0 id) HV.out
             have df : w2.frozen? ⟨w.heap.size, z, none⟩ = false := by
               obtain ⟨o, ho⟩ : ∃ o, wr.heap[w.heap.size]? = some o := ⟨_, Array.getElem?_eq_getElem HSZ.out⟩
               have h2 : w2.heap[w.heap.size]? = some o := (hk2'.block w.heap.size (by have := HSZ.out; simp; omega) HV.out).trans (heap_alloc ho _)
               have h3 : w2.frozen? ⟨w.heap.size, z, none⟩ = wr.frozen? ⟨w.heap.size, z, none⟩ := by simp [World.frozen?, h2, ho]
               rw [h3]; exact rf0
             have P := Lib.hid (HPUT.out (.cells #[.int .i64 (z2 : Int)] 3) w2 (.slice a2 (R.length + 1) c2) hk2' (by rw [cellsOf_append, List.length_append]; exact hown2) hb2')
             clear hown2 hk2 hb2 hk2' hb2'))
        all_goals
          have Q : Hid (∃ F, LsN (w2.setCell ⟨w.heap.size, z, none⟩ (.slice a2 (R.length + 1) c2)) (.slice (some ⟨w.heap.size, 0, none⟩) nodes.length nodes.length) F (adjP nodes.length ((prs nodes uses).take (k + 1))) ∧ Kept (fun b => w.heap.size ≤ b) w (w2.setCell ⟨w.heap.size, z, none⟩ (.slice a2 (R.length + 1) c2)) ∧ ∀ b, F b → w.heap.size ≤ b) := Lib.hid (by
            obtain ⟨F', r1, r2, r3⟩ := P.out
            rw [Nat.zero_add] at r1 r2
            have hs := HK.out.size
            refine ⟨F', by rw [HAA.out]; exact r1, (HK.out.alloc _).trans' r2 (fun i hi h => HFB.out i h), fun b hb => ?_⟩
            rcases r3 b hb with h | h
            · exact HFB.out b h
            · simp at h
              omega)
          clear P d2 df r0 rf0 HPUT
          go_wp2
          go_roundw
          case rel => exact ⟨k + 1, by omega, by go_num, Q⟩
          case measure => simp [intOf]; omega
    · have hki : ¬ (k : Int) < (uses.length : Int) := by omega
      obtain rfl : k = uses.length := by omega
      have hp : (prs nodes uses).take uses.length = prs nodes uses := List.take_of_length_le (by simp [prs])
      rw [hp] at hL
      have Q : Hid (LsN wr (.slice (some ⟨w.heap.size, 0, none⟩) nodes.length nodes.length) F (graphL nodes uses) ∧ Kept (fun _ => False) w wr ∧ ∀ b, F b → w.heap.size ≤ b) := Lib.hid ⟨hL, hK.mono (fun i hi h => by omega), hF⟩
      clear hH hL hK hF hlt hk hp
      go_wp2
      go_ret
      exact ⟨_, rfl, F, Q.out⟩

end Go.Proofs.Ytncloielmfplpaa
