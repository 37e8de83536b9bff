/- What Find answers, of the frames' contents alone (plain), and the contract in that form. -/
import Derived.Test.YtllcklddfcclfaaScopeFII
namespace Go.Proofs.Ytllcklddfcclfaa
open Go.RowKit
set_option linter.unusedVariables false
set_option linter.unusedSimpArgs false

def FindRes (fs : List (List (Int × Int))) (k : Int) (r : Int × Int × Int) : Prop :=
  (r = (0, 0, 6) ∧ ∀ f ∈ fs, k ∉ f.map (·.1)) ∨ ∃ (i : Nat) (hi : i < fs.length) (x : Int), r = (x, (i : Int), 0) ∧ (k, x) ∈ fs[i] ∧ ∀ i' (hi' : i' < fs.length), i < i' → k ∉ fs[i'].map (·.1)

theorem item_unique {f : List (Int × Int)} (hnd : (f.map (·.1)).Nodup) {k x y : Int} (hx : (k, x) ∈ f) (hy : (k, y) ∈ f) : x = y := by
  induction f with
  | nil => simp at hx
  | cons a f ih =>
    rw [List.map_cons, List.nodup_cons] at hnd
    rcases List.mem_cons.1 hx with rfl | hx' <;> rcases List.mem_cons.1 hy with hy' | hy'
    · exact (congrArg (·.2) hy').symm
    · exact absurd (List.mem_map.2 ⟨_, hy', rfl⟩) hnd.1
    · subst hy'
      exact absurd (List.mem_map.2 ⟨_, hx', rfl⟩) hnd.1
    · exact ih hnd.2 hx' hy'

theorem FindRes.unique {fs : List (List (Int × Int))} (hnd : ∀ f ∈ fs, (f.map (·.1)).Nodup) {k : Int} {r r' : Int × Int × Int} (h : FindRes fs k r) (h' : FindRes fs k r') : r = r' := by
  rcases h with ⟨rfl, hno⟩ | ⟨i, hi, x, rfl, hm, hl⟩ <;> rcases h' with ⟨rfl, hno'⟩ | ⟨i', hi', x', rfl, hm', hl'⟩
  · rfl
  · exact absurd (List.mem_map.2 ⟨_, hm', rfl⟩) (hno _ (List.getElem_mem hi'))
  · exact absurd (List.mem_map.2 ⟨_, hm, rfl⟩) (hno' _ (List.getElem_mem hi))
  · have e : i = i' := by
      rcases Nat.lt_trichotomy i i' with h | h | h
      · exact absurd (List.mem_map.2 ⟨_, hm', rfl⟩) (hl i' hi' h)
      · exact h
      · exact absurd (List.mem_map.2 ⟨_, hm, rfl⟩) (hl' i hi h)
    subst e
    rw [item_unique (hnd _ (List.getElem_mem hi)) hm hm']

theorem FindRes.opened {fs : List (List (Int × Int))} {k : Int} {r : Int × Int × Int} (h : FindRes fs k r) : FindRes (fs ++ [[]]) k r := by
  rcases h with ⟨rfl, hno⟩ | ⟨i, hi, x, rfl, hm, hl⟩
  · refine .inl ⟨rfl, fun f hf => ?_⟩
    rcases List.mem_append.1 hf with hf | hf
    · exact hno f hf
    · simp at hf
      subst hf
      simp
  · refine .inr ⟨i, by simp; omega, x, rfl, by rw [List.getElem_append_left hi]; exact hm, fun i' hi' hlt => ?_⟩
    by_cases h : i' < fs.length
    · rw [List.getElem_append_left h]
      exact hl i' h hlt
    · have : i' = fs.length := by simp at hi'; omega
      subst this
      simp

/-- The thing is bound in the last frame. -/
theorem FindRes.last {fs : List (List (Int × Int))} {f : List (Int × Int)} {k : Int} {r : Int × Int × Int} (h : FindRes (fs ++ [f]) k r) (hm : k ∈ f.map (·.1)) : ∃ x, r = (x, (fs.length : Int), 0) ∧ (k, x) ∈ f := by
  rcases h with ⟨rfl, hno⟩ | ⟨i, hi, x, rfl, hx, hl⟩
  · exact absurd hm (hno f (by simp))
  · by_cases h : i < fs.length
    · exact absurd (by rw [List.getElem_append_right (Nat.le_refl _)]; simpa using hm) (hl fs.length (by simp) h)
    · have : i = fs.length := by simp at hi; omega
      subst this
      exact ⟨x, rfl, by simpa using hx⟩

theorem scopeFindRes {p : Value} {F : Nat → Prop} {fr : List (Fr Int Int)} {w : World} (h : ScopeII w p F fr) (h0 : 0 < fr.length) (k : Int) :
    Calls Try.prog 14 #[p, .int .i64 k] w fun e w' => ∃ r : Int × Int × Int, e = .returned (.tuple #[.int .i64 r.1, .int .i64 r.2.1, .int .i64 r.2.2]) ∧ FindRes (fr.map Fr.items) k r ∧ Below w.heap.size w w' := by
  refine (scopeFindII h h0 k).mono ?_
  rintro e w' ⟨(⟨rfl, hno⟩ | ⟨i, hi, x, rfl, ⟨j, hj⟩, hl⟩), hb⟩
  · exact ⟨(0, 0, 6), rfl, .inl ⟨rfl, fun f hf => by obtain ⟨f', hf', rfl⟩ := List.mem_map.1 hf; exact hno f' hf'⟩, hb⟩
  · exact ⟨(x, (i : Int), 0), rfl, .inr ⟨i, by simpa using hi, x, rfl, by rw [List.getElem_map]; exact List.mem_of_getElem? hj, fun i' hi' hlt => by rw [List.getElem_map]; exact hl i' (by simpa using hi') hlt⟩, hb⟩

theorem ScopeII.nodup {p : Value} {F : Nat → Prop} {fr : List (Fr Int Int)} {w : World} (h : ScopeII w p F fr) : ∀ f ∈ fr.map Fr.items, (f.map (·.1)).Nodup := by
  obtain ⟨_, _, _, _, _, h3, _⟩ := h
  intro f hf
  obtain ⟨f', hf', rfl⟩ := List.mem_map.1 hf
  exact (h3 f' hf').2.2

end Go.Proofs.Ytllcklddfcclfaa
