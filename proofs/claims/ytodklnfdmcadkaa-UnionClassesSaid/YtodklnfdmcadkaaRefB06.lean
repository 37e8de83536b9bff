/- The reference's sets: Add. -/
import Derived.Test.YtodklnfdmcadkaaRefA06
import Derived.Deep.RegionLaw
namespace Go.Proofs.Ytodklnfdmcadkaa
open Go.RowKit
set_option linter.unusedVariables false
set_option linter.unusedSimpArgs false

section
variable {w : World} {p : Value} {F : Nat → Prop} {ρ : Nat → Nat} {vals : List Int}

set_option maxRecDepth 100000 in
set_option maxHeartbeats 1000000 in
theorem runAdd (h : RUn w p F ρ vals) (x : Int) (hf : Fits (vals.length + 1) 8) :
    Calls Try.prog 10 #[p, .int .i64 x] w fun e w' => e = .returned (.int .i64 (vals.length : Int)) ∧
      ∃ F', RUn w' p F' (fun j => if j = vals.length then vals.length else ρ j) (vals ++ [x]) ∧ Kept F w w' ∧ ∀ b, F' b → F b ∨ w.heap.size ≤ b := by
  obtain ⟨rb, v, u, rfl, h1, hown, hou, hv0, hu, hvu, hlt0, hF⟩ := h
  obtain ⟨a, c, rfl, a1, a2, a3⟩ := hown.shape
  obtain ⟨ua, uc, rfl, u1, u2, u3⟩ := hou.shape
  have c0 : w.cell? ⟨rb, 0, none⟩ = some (.slice a vals.length c) := cell_of h1 rfl
  have H1 := Lib.hid h1
  have HO := Lib.hid hown
  have HU := Lib.hid hou
  have HV0 := Lib.hid hv0
  have HUU := Lib.hid hu
  have HVU := Lib.hid hvu
  have HLT := Lib.hid hlt0
  have HF := Lib.hid hF
  have HT := Lib.hid hf
  have hml : vals.length < 9223372036854775807 := by have := hf.1; unfold maxLen at this; omega
  have hrs := heap_lt h1
  have hsub : ((vals.length + 1 : Nat) : Int) - 1 = (vals.length : Int) := by omega
  clear h1 hown hou hv0 hu hvu hlt0 hF hf a3 a2 u3 u2
  go_enter Try.func10, Try.ntmps10
  go_wp2_with fail
  go_region_law (first
    | (refine step_append slInt (v := .slice a vals.length c) (n := vals.length) (m := 1) (xs := cellsOf encI (lst vals.length ρ)) (news := [.int .i64 (vals.length : Int)]) rfl _ _ rfl rfl rfl ?_ ?_ ?_ HT.out ?_
       · exact HO.out.alloc _
       · exact Own.rd (Own.fresh (n := 1) (by rfl) (by decide))
       · simp [Value.oneCell']
       intro v2 w2 hown2 hk2 hb2
       obtain ⟨a2, c2, rfl, _, _, _⟩ := hown2.shape
       have hk2' : Kept (fun b => (Value.slice a vals.length c).ownBlock = some b) (w.alloc (.cells #[.int .i64 (vals.length : Int)] 3)) w2 := ⟨hk2.os, hk2.tape, hk2.output, hk2.size, hk2.block⟩
       have hb2' : ∀ b, (Value.slice a2 (vals.length + 1) c2).ownBlock = some b → (Value.slice a vals.length c).ownBlock = some b ∨ (w.alloc (.cells #[.int .i64 (vals.length : Int)] 3)).heap.size ≤ b := hb2
       have hn2 : (Value.slice a2 (vals.length + 1) c2).ownBlock ≠ some rb := fun h => by
         rcases hb2' _ h with h | h
         · exact HV0.out h
         · simp at h; omega
       have hO2 := hown2.setCell (p := ⟨rb, 0, none⟩) hn2 (.slice a2 (vals.length + 1) c2)
       have hU2 := (((HU.out.alloc (.cells #[.int .i64 (vals.length : Int)] 3)).frame hk2' (fun b hb h => HVU.out b h hb))).setCell (p := ⟨rb, 0, none⟩) HUU.out (.slice a2 (vals.length + 1) c2)
       have e2 := (hk2'.block rb (by simp; omega) HV0.out).trans (heap_alloc H1.out _)
       have hK2 : Kept F w (w2.setCell ⟨rb, 0, none⟩ (.slice a2 (vals.length + 1) c2)) := Kept.setCell (((Kept.refl F w).alloc _).trans' hk2' (fun i _ h => (HF.out i).2 (.inr (.inl h)))) (fun _ => (HF.out rb).2 (.inl rfl)) _
       have e3 := heap_set (o := 0) e2 (.slice a2 (vals.length + 1) c2)
       have hB2 : ∀ b, (Value.slice a2 (vals.length + 1) c2).ownBlock = some b → ((Value.slice a vals.length c).ownBlock = some b ∨ w.heap.size + 1 ≤ b) ∧ b < w2.heap.size := fun b h => ⟨by have := hb2' b h; simpa using this, hown2.lt h⟩
       have d2 : w2.cell? ⟨rb, 0, none⟩ = some (.slice a vals.length c) := cell_of e2 rfl
       have f2 : w2.frozen? ⟨rb, 0, none⟩ = false := frozen_of e2
       have d3 : (w2.setCell ⟨rb, 0, none⟩ (.slice a2 (vals.length + 1) c2)).cell? ⟨rb, 1, none⟩ = some (.slice ua vals.length uc) := cell_of e3 (by simp)
       have P := Lib.hid (And.intro hO2 (And.intro hU2 (And.intro hK2 (And.intro e3 (And.intro hB2 hn2)))))
       clear hown2 hk2 hb2 hk2' hb2' hn2 hO2 hU2 hK2 e3 hB2 e2))
  all_goals
    change Exit.then _ _ _ _ (w2.setCell ⟨rb, 0, none⟩ (.slice a2 (vals.length + 1) c2))
    generalize w2.setCell ⟨rb, 0, none⟩ (.slice a2 (vals.length + 1) c2) = wB at d3 P ⊢
    obtain ⟨p1, p2, p3, p4, p5, p6⟩ := P.out
    have hwB : rb < wB.heap.size := heap_lt p4
    have P1 := Lib.hid p1
    have P2 := Lib.hid p2
    have P3 := Lib.hid p3
    have P4 := Lib.hid p4
    have P5 := Lib.hid p5
    have P6 := Lib.hid p6
    have P7 := Lib.hid (fun b h => p1.lt (b := b) h)
    clear P p1 p2 p3 p4 p5 p6 d2 f2 c0
    go_wp2_with (first
      | (at_builtin
         refine wpList_append slInt (v := .slice ua vals.length uc) (vx := .slice (some ⟨wB.heap.size, 0, none⟩) 1 1) (news := [.int .i64 x]) (m := 1) rfl _ _ rfl rfl rfl (P2.out.alloc _) (Own.rd (Own.fresh (n := 1) (by rfl) (by decide))) (by simp [Value.oneCell']) HT.out ?_
         intro v4 w4 hown4 hk4 hb4 _
         obtain ⟨a4, c4, rfl, _, _, _⟩ := hown4.shape
         have hn4 : (Value.slice a4 (vals.length + 1) c4).ownBlock ≠ some rb := fun h => by
           rcases hb4 _ h with h | h
           · exact HUU.out h
           · simp at h; omega
         have e4 := (hk4.block rb (by simp; omega) HUU.out).trans (heap_alloc P4.out _)
         have e5 := heap_set (o := 1) e4 (.slice a4 (vals.length + 1) c4)
         have d4 : w4.cell? ⟨rb, 1, none⟩ = some (.slice ua vals.length uc) := cell_of e4 (by simp)
         have f4 : w4.frozen? ⟨rb, 1, none⟩ = false := frozen_of e4
         have d5 : (w4.setCell ⟨rb, 1, none⟩ (.slice a4 (vals.length + 1) c4)).cell? ⟨rb, 0, none⟩ = some (.slice a2 (vals.length + 1) c2) := cell_of e5 (by simp)
         have HN4 := Lib.hid hn4
         have HK4 := Lib.hid hk4
         have HB4 := Lib.hid hb4
         have HO4 := Lib.hid hown4
         have E5 := Lib.hid e5
         clear hn4 hk4 hb4 hown4 e4 e5 d3))
    go_ret
    have hd : ∀ b, (Value.slice a2 (vals.length + 1) c2).ownBlock = some b → (Value.slice ua vals.length uc).ownBlock ≠ some b := fun b h h2 => by
      rcases (P5.out b h).1 with h3 | h3
      · exact HVU.out b h3 h2
      · have := HU.out.lt h2; omega
    refine ⟨rfl, fun b => b = rb ∨ (Value.slice a2 (vals.length + 1) c2).ownBlock = some b ∨ (Value.slice a4 (vals.length + 1) c4).ownBlock = some b, ⟨rb, .slice a2 (vals.length + 1) c2, .slice a4 (vals.length + 1) c4, rfl, ?_, ?_, ?_, P6.out, HN4.out, ?_, ?_, fun _ => Iff.rfl⟩, ?_, ?_⟩
    · have := E5.out
      simpa using this
    · rw [List.length_append, List.length_singleton, lst_add, cellsOf_append]
      exact ((P1.out.alloc _).frame HK4.out (fun b h h2 => hd b h h2)).setCell (p := ⟨rb, 1, none⟩) P6.out _
    · rw [List.length_append, List.length_singleton, cellsOf_append]
      exact HO4.out.setCell (p := ⟨rb, 1, none⟩) HN4.out _
    · intro b h h2
      rcases HB4.out b h2 with h3 | h3
      · exact hd b h h3
      · have := P7.out b h
        simp at h3
        omega
    · intro j hj
      rw [List.length_append, List.length_singleton] at hj ⊢
      show (if j = vals.length then vals.length else ρ j) < vals.length + 1
      split
      · omega
      · have := HLT.out j (by omega)
        omega
    · exact Kept.setCell ((P3.out.alloc _).trans' HK4.out (fun i _ h => (HF.out i).2 (.inr (.inr h)))) (fun _ => (HF.out rb).2 (.inl rfl)) _
    · have hs := P3.out.size
      rintro b (h | h | h)
      · exact .inl ((HF.out b).2 (.inl h))
      · rcases (P5.out b h).1 with h3 | h3
        · exact .inl ((HF.out b).2 (.inr (.inl h3)))
        · exact .inr (by omega)
      · rcases HB4.out b h with h3 | h3
        · exact .inl ((HF.out b).2 (.inr (.inr h3)))
        · simp at h3
          exact .inr (by omega)

end

end Go.Proofs.Ytodklnfdmcadkaa
