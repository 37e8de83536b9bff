/- The union's methods at one type: New, Add, least, Find, Len, Count. -/
import Derived.Test.YtodklnfdmcadkaaFacts6
import Derived.Test.YtodklnfdmcadkaaUniIs
import Derived.Test.YtodklnfdmcadkaaFitsWide
import Derived.WalkSpells
import Derived.WalkLawsBesides
import Derived.Deep.QuietTactic
import Derived.Deep.RegionLaw
import Derived.BigQuiet
import Derived.StillTailTactics
import Derived.IntWalk
namespace Go.Proofs.Ytodklnfdmcadkaa
open Go.RowKit
set_option linter.unusedVariables false
set_option linter.unusedSimpArgs false

theorem slCelI : SlT Try.prog 54 58 (.agg #[.int .i64 0, .int .i64 0, .int .i64 0]) 3 24 := SlT.mk' Try.underlying54 (by kernel_rfl) rfl (by decide) (by decide)

abbrev UniI := UniIs (α := Int) 56 58 encI

theorem uniNewI (w : World) :
    Calls Try.prog 9 #[] w fun e w' => e = .returned (.pointer (some ⟨w.heap.size, 0, none⟩)) ∧ UniI w' (.pointer (some ⟨w.heap.size, 0, none⟩)) (fun b => b = w.heap.size) id [] ∧ Kept (fun _ => False) w w' := by
  have HM := Lib.hid (UniIs.made (T := 56) (e := 58) (enc := encI) w)
  have HK := Lib.hid ((Kept.refl (fun _ => False) w).alloc (.cells #[.slice none 0 0, .int .i64 0] 56))
  go_enter Try.func9, Try.ntmps9
  go_wp2
  go_ret
  exact ⟨rfl, HM.out, HK.out⟩

section
variable {p : Value} {F : Nat → Prop} {ρ : Nat → Nat} {vals : List (Int)} {w : World}

theorem uniLenI (h : UniI w p F ρ vals) :
    Calls Try.prog 21 #[p] w fun e w' => e = .returned (.int .i64 (vals.length : Int)) ∧ w = w' := by
  obtain ⟨cs, ⟨sb, v, rfl, h1, hown, hv1, hF⟩, hinv, hring, rfl⟩ := h
  obtain ⟨a, c, rfl, a1, a2, a3⟩ := hown.shape
  have c1 : w.cell? ⟨sb, 0, none⟩ = some (.slice a cs.length c) := cell_of h1 rfl
  clear h1 hown hv1 hF a3 hinv hring
  go_enter Try.func21, Try.ntmps21
  go_wp2
  go_ret
  exact ⟨by simp, rfl⟩

theorem uniCountI (h : UniI w p F ρ vals) :
    Calls Try.prog 20 #[p] w fun e w' => e = .returned (.int .i64 (roots vals.length ρ : Int)) ∧ w = w' := by
  obtain ⟨cs, ⟨sb, v, rfl, h1, hown, hv1, hF⟩, hinv, hring, rfl⟩ := h
  have c1 : w.cell? ⟨sb, 1, none⟩ = some (.int .i64 (roots cs.length ρ : Int)) := cell_of h1 rfl
  clear h1 hown hv1 hF hinv hring
  go_enter Try.func20, Try.ntmps20
  go_wp2
  go_ret
  exact ⟨by simp, rfl⟩

set_option maxHeartbeats 400000 in
theorem uniAddI (h : UniI w p F ρ vals) (x : Int) (hf : Fits (vals.length + 1) 24) :
    Calls Try.prog 11 #[p, encI x] w fun e w' => e = .returned (.tuple #[.int .i64 (vals.length : Int), .int .i64 0]) ∧
      ∃ F', UniI w' p F' (fun j => if j = vals.length then vals.length else ρ j) (vals ++ [x]) ∧ Kept F w w' ∧ ∀ b, F' b → F b ∨ w.heap.size ≤ b := by
  obtain ⟨cs, ⟨sb, v, rfl, h1, hown, hv1, hF⟩, hinv, hring, rfl⟩ := h
  rw [List.length_map] at hf ⊢
  obtain ⟨a, c, rfl, a1, a2, a3⟩ := hown.shape
  have c0 : w.cell? ⟨sb, 0, none⟩ = some (.slice a cs.length c) := cell_of h1 rfl
  have hml : cs.length < 9223372036854775807 := by have := hf.1; unfold maxLen at this; omega
  have hrl := roots_le cs.length ρ
  have HRA := Lib.hid (roots_add cs.length ρ)
  generalize hr : roots cs.length ρ = r at h1 hrl HRA
  have H1 := Lib.hid h1
  have HO := Lib.hid hown
  have HV := Lib.hid hv1
  have HF := Lib.hid hF
  have HT := Lib.hid hf
  have HI := Lib.hid (And.intro (hinv.add x) (hring.add hinv x))
  clear h1 hown hv1 hF hf a3 a2 hinv hring hr
  unfold encI
  go_enter Try.func11, Try.ntmps11
  go_wp2_with (first
    | (at_builtin; refine wpList_append slCelI (v := .slice a cs.length c) (vx := .slice (some ⟨w.heap.size, 0, none⟩) 1 1) (news := [.int .i64 (cs.length : Int), .int .i64 (cs.length : Int), encI x]) (m := 1) rfl _ _ rfl rfl rfl (HO.out.alloc _) (Own.rd (Own.fresh (n := 1) (by rfl) (by decide))) (by simp [Value.oneCell', encI]) HT.out ?_
       intro v2 w2 hown2 hk2 hb2 _
       obtain ⟨a2, c2, rfl, _, _, _⟩ := hown2.shape
       have e2 := Lib.hid ((hk2.block sb (Nat.lt_of_lt_of_le (heap_lt H1.out) (by simp)) HV.out).trans (heap_alloc H1.out _))
       have d2 : w2.cell? ⟨sb, 0, none⟩ = some (.slice a cs.length c) := cell_of e2.out rfl
       have f2 : w2.frozen? ⟨sb, 0, none⟩ = false := frozen_of e2.out
       have e3 := Lib.hid (heap_set (o := 0) e2.out (.slice a2 (cs.length + 1) c2))
       have d3 : (w2.setCell ⟨sb, 0, none⟩ (.slice a2 (cs.length + 1) c2)).cell? ⟨sb, 1, none⟩ = some (.int .i64 (r : Int)) := cell_of e3.out (by simp)
       have f3 : (w2.setCell ⟨sb, 0, none⟩ (.slice a2 (cs.length + 1) c2)).frozen? ⟨sb, 1, none⟩ = false := frozen_of e3.out
       have HO2 := Lib.hid hown2
       have HK2 := Lib.hid hk2
       have HB2 := Lib.hid hb2
       clear hown2 hk2 hb2))
  go_ret2
  have hn2 : (Value.slice a2 (cs.length + 1) c2).ownBlock ≠ some sb := fun h => by
    rcases HB2.out _ h with h | h
    · exact HV.out h
    · have := heap_lt H1.out
      simp at h; omega
  refine ⟨by simp, fun b => b = sb ∨ (Value.slice a2 (cs.length + 1) c2).ownBlock = some b, ⟨cs ++ [(cs.length, cs.length, x)], ⟨sb, _, rfl, ?_, ?_, hn2, fun _ => Iff.rfl⟩, HI.out.1, HI.out.2, by simp⟩, ?_, ?_⟩
  · have := heap_set (o := 1) e3.out (.int .i64 ((r : Int) + 1))
    rw [List.length_append, List.length_singleton, HRA.out]
    simpa using this
  · rw [List.length_append, cellsOf_append]
    exact (HO2.out.setCell (p := ⟨sb, 0, none⟩) hn2 _).setCell (p := ⟨sb, 1, none⟩) hn2 _
  · exact Kept.setCell (Kept.setCell (((Kept.refl F w).alloc _).trans' HK2.out (fun i _ h => (HF.out i).2 (.inr h))) (fun _ => (HF.out sb).2 (.inl rfl)) _) (fun _ => (HF.out sb).2 (.inl rfl)) _
  · rintro b (h | h)
    · exact .inl ((HF.out b).2 (.inl h))
    · rcases HB2.out b h with h | h
      · exact .inl ((HF.out b).2 (.inr h))
      · simp at h
        exact .inr (by omega)

theorem uniLeast0I (h : UniI w p F ρ vals) {i : Int} (hi : i < 0 ∨ (vals.length : Int) ≤ i) :
    Calls Try.prog 39 #[p, .int .i64 i] w fun e w' => e = .returned (.tuple #[.int .i64 0, .int .i64 2]) ∧ w = w' := by
  obtain ⟨cs, ⟨sb, v, rfl, h1, hown, hv1, hF⟩, hinv, hring, rfl⟩ := h
  rw [List.length_map] at hi
  obtain ⟨a, c, rfl, a1, a2, a3⟩ := hown.shape
  have c0 : w.cell? ⟨sb, 0, none⟩ = some (.slice a cs.length c) := cell_of h1 rfl
  clear h1 hown hv1 hF a3 hinv hring
  rcases Int.lt_or_le i 0 with hn | hn
  · clear hi
    go_enter Try.func39, Try.ntmps39
    go_wp2
    go_ret2
    exact ⟨rfl, rfl⟩
  · have hb : decide ((cs.length : Int) ≤ i) = true := by simp; omega
    clear hi
    go_enter Try.func39, Try.ntmps39
    go_wp2
    go_ret2
    exact ⟨rfl, rfl⟩

set_option maxRecDepth 100000 in
set_option maxHeartbeats 1000000 in
theorem uniLeast1I (h : UniI w p F ρ vals) {j : Nat} (hj : j < vals.length) :
    Calls Try.prog 39 #[p, .int .i64 j] w fun e w' => e = .returned (.tuple #[.int .i64 (ρ j : Int), .int .i64 0]) ∧ UniI w' p F ρ vals ∧ Kept F w w' := by
  obtain ⟨cs, ⟨sb, v, rfl, h1, hown, hv1, hF⟩, hinv, hring, rfl⟩ := h
  rw [List.length_map] at hj
  obtain ⟨a, c, rfl, a1, a2, a3⟩ := hown.shape
  have c0 : w.cell? ⟨sb, 0, none⟩ = some (.slice a cs.length c) := cell_of h1 rfl
  have hb1 : decide (cs.length ≤ j) = false := by simp; omega
  have hb2 : decide ((j : Int) < 0) = false := by simp
  have hb : (decide ((j : Int) < 0) || decide (cs.length ≤ j)) = false := by rw [hb1, hb2]; rfl
  have hml : cs.length ≤ 9223372036854775807 := by unfold maxLen at a2; omega
  generalize hr : roots cs.length ρ = r at h1
  have H1 := Lib.hid h1
  have HO := Lib.hid hown
  have HV := Lib.hid hv1
  have HF := Lib.hid hF
  have HI := Lib.hid hinv
  have HG := Lib.hid hring
  have HJ := Lib.hid hj
  have HR := Lib.hid hr
  clear h1 hown hv1 hF a3 a2 hinv hring hr hj
  go_enter Try.func39, Try.ntmps39
  go_wp2
  clear hb hb1 hb2
  go_loop [6] (fun i => ∃ t : Nat, i = .int .i64 t ∧ Hid (t < cs.length ∧ ρ t = ρ j)) (fun i => (intOf i).toNat)
  case atStart => exact ⟨j, rfl, Lib.hid ⟨HJ.out, rfl⟩⟩
  case round =>
    obtain ⟨t, rfl, hH⟩ := hrel
    obtain ⟨hlt, hρ⟩ := hH.out
    obtain ⟨g, off, cap, hv, _, _, hcl, hfz, hg⟩ := HO.out.elt (by omega)
    simp only [Value.slice.injEq, true_and] at hv
    obtain ⟨rfl, rfl⟩ := hv
    have e0 : w.cell? ⟨g, off + t * 3, none⟩ = some (.int .i64 (cs[t].1 : Int)) := hcl (t * 3) _ (by have := cellsOf_encC_get encI cs hlt (j := 0) (by omega); exact this)
    have hfix := HI.out.fix t hlt
    have hule := HI.out.upLe t hlt
    have hrep := HI.out.upRep t hlt
    generalize hx : cs[t].1 = x at e0 hfix hule hrep
    by_cases hxt : x = t
    · have htop : t = ρ j := by rw [← hρ, hfix.1 hxt]
      subst hxt
      have HTOP := Lib.hid htop
      have hi1 : (x : Int) < (cs.length : Int) := by omega
      clear hH hlt hρ hcl hfz hfix hule hrep hx htop
      go_wp2
      go_loopw [1] (fun i wr => ∃ (k : Nat) (cs' : List (Cel (Int))), i = .int .i64 k ∧ Hid (k < cs'.length ∧ ρ k = ρ j ∧ wr.heap[sb]? = some (.cells #[.slice (some ⟨g, off, none⟩) cs.length c, .int .i64 (r : Int)] 56 (0, 0)) ∧ Own wr 58 3 (.slice (some ⟨g, off, none⟩) cs.length c) cs.length (cellsOf (encC encI) cs') ∧ UInv cs' ρ ∧ cs'.map (·.2) = cs.map (·.2) ∧ Kept F w wr)) (fun i _ => (intOf i).toNat)
      case atStart => exact ⟨j, cs, rfl, Lib.hid ⟨HJ.out, rfl, H1.out, HO.out, HI.out, rfl, Kept.refl _ _⟩⟩
      case round =>
        obtain ⟨k, cs', rfl, hH⟩ := hrel
        obtain ⟨hlt, hρ, hh, ho, hinv, hmap, hkept⟩ := hH.out
        have hlen := len_map hmap
        by_cases hkx : k = x
        · subst hkx
          have D1 := Lib.hid hh
          have DO := Lib.hid ho
          have DI := Lib.hid hinv
          have DM := Lib.hid hmap
          have DK := Lib.hid hkept
          have DL := Lib.hid hlen
          clear hH hlt hρ hh ho hinv hmap hkept hlen
          go_wp2
          go_ret2
          refine ⟨by have h := HTOP.out; rw [← h]; rfl, ⟨cs', ⟨sb, _, rfl, ?_, ?_, HV.out, HF.out⟩, DI.out, HG.out.map DM.out, vals_map DM.out⟩, DK.out⟩
          · rw [DL.out, HR.out]; exact D1.out
          · rw [DL.out]; exact DO.out
        · have hne : ρ k ≠ k := fun h => by
            have := HTOP.out
            omega
          have hblt : cs'[k].1 < k := by
            have h1 := hinv.upLe k hlt
            have h2 := hinv.fix k hlt
            by_cases h3 : cs'[k].1 = k
            · exact absurd (h2.1 h3) hne
            · omega
          have hbrep := hinv.upRep k hlt
          have hnew := hinv.hang hlt hne
          have hnm := hang_map (cs := cs') hlt (ρ k)
          have hcs := fun y hy => cellsOf_encC_set encI cs' hlt (j := 0) (by omega) (.int .i64 (x : Int)) y hy
          have hcs' := hcs (x, cs'[k].2) rfl
          have hxk : ρ k = x := by rw [hρ]; exact HTOP.out.symm
          rw [hxk] at hnew hnm
          have hset := ho.setAt (j := k * 3) (by omega) (.int .i64 (x : Int))
          rw [Nat.add_zero] at hcs'
          rw [hcs'] at hset
          have d0 : wr.cell? ⟨sb, 0, none⟩ = some (.slice (some ⟨g, off, none⟩) cs.length c) := cell_of hh rfl
          obtain ⟨g', off', cap', hv', _, _, hcl, hfz, _⟩ := ho.elt (by omega)
          simp only [Value.slice.injEq, Option.some.injEq, Addr.mk.injEq, true_and, and_true] at hv'
          obtain ⟨⟨rfl, rfl⟩, rfl⟩ := hv'
          have e1 : wr.cell? ⟨g, off + k * 3, none⟩ = some (.int .i64 (cs'[k].1 : Int)) := hcl (k * 3) _ (by have := cellsOf_encC_get encI cs' hlt (j := 0) (by omega); exact this)
          have f1 : wr.frozen? ⟨g, off + k * 3, none⟩ = false := hfz _
          have hgs : sb ≠ g := fun e => HV.out (by simp [Value.ownBlock, e])
          have hm2 : (cs'.set k (x, cs'[k].2)).map (·.2) = cs.map (·.2) := hnm.trans hmap
          have hk2 : k < cs.length := by omega
          have hi2 : (k : Int) < (cs.length : Int) := by omega
          have hrho : ρ cs'[k].1 = ρ j := hbrep.trans hρ
          have hylt : cs'[k].1 < cs'.length := by omega
          generalize hy : cs'[k].1 = y at e1 hblt hrho hylt
          generalize hz : cs'.set k (x, cs'[k].2) = cs2 at hset hnew hm2
          have hl3 : cs2.length = cs'.length := by rw [← hz, List.length_set]
          rw [← hl3] at hylt
          have D1 := Lib.hid hh
          have DO := Lib.hid hset
          have DI := Lib.hid hnew
          have DM := Lib.hid hm2
          have DK := Lib.hid hkept
          have DR := Lib.hid hrho
          have DY := Lib.hid hylt
          have DG := Lib.hid hgs
          have DB := Lib.hid hblt
          have hkx' : ((k : Int) == (x : Int)) = false := by simp; omega
          clear hH hlt hρ hh ho hinv hmap hkept hlen hne hbrep hnew hnm hcs hcs' hset hcl hfz hm2 hrho hylt hgs hblt hz hy hxk hl3 hkx hk2
          go_wp2_with fail
          go_still_tail 17, (by kernel_rfl)
          change wpList _ _ _ _ _ wr.drew
          have e2 : wr.drew.cell? ⟨g, off + k * 3, none⟩ = some (.int .i64 (y : Int)) := e1
          have f2 : wr.drew.frozen? ⟨g, off + k * 3, none⟩ = false := f1
          have Q : Hid (y < cs2.length ∧ ρ y = ρ j ∧ (wr.drew.setCell ⟨g, off + k * 3, none⟩ (.int .i64 (x : Int))).heap[sb]? = some (.cells #[.slice (some ⟨g, off, none⟩) cs.length c, .int .i64 (r : Int)] 56 (0, 0)) ∧ Own (wr.drew.setCell ⟨g, off + k * 3, none⟩ (.int .i64 (x : Int))) 58 3 (.slice (some ⟨g, off, none⟩) cs.length c) cs.length (cellsOf (encC encI) cs2) ∧ UInv cs2 ρ ∧ cs2.map (·.2) = cs.map (·.2) ∧ Kept F w (wr.drew.setCell ⟨g, off + k * 3, none⟩ (.int .i64 (x : Int)))) :=
            Lib.hid ⟨DY.out, DR.out, (heap_set_ne (p := ⟨g, off + k * 3, none⟩) DG.out _).trans D1.out, DO.out, DI.out, DM.out, (DK.out.drew).setCell (fun _ => (HF.out g).2 (.inr (by simp [Value.ownBlock]))) _⟩
          clear D1 DO DI DM DK DR DY e0 e1 d0 f1 c0
          go_wp2
          go_roundw
          case rel => exact ⟨y, cs2, rfl, Q⟩
          case measure => have := DB.out; simp [intOf]; omega
    · have hb : ((x : Int) == (t : Int)) = false := by simp; omega
      have hi1 : (t : Int) < (cs.length : Int) := by omega
      have Q := Lib.hid (show x < cs.length ∧ ρ x = ρ j from ⟨by omega, hrep.trans hρ⟩)
      have hlt' : x < t := by omega
      clear hH hlt hρ hcl hfz hfix hule hrep hx hxt
      go_wp2
      go_round
      case rel => exact ⟨x, rfl, Q⟩
      case measure => simp [intOf]; omega

end

end Go.Proofs.Ytodklnfdmcadkaa
