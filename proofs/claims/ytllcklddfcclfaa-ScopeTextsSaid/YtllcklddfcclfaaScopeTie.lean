/- Plain: the reference's list is the frames one behind the other, each binding with its frame's number. -/
import Derived.Test.YtllcklddfcclfaaScopeRes
import Derived.Test.YtllcklddfcclfaaRef04
namespace Go.Proofs.Ytllcklddfcclfaa
set_option linter.unusedVariables false
set_option linter.unusedSimpArgs false

def refL (fs : List (List (Int × Int))) : List Bd := fs.zipIdx.flatMap fun q => q.1.map fun it => (q.2, it.1, it.2)

theorem refL_snoc (fs : List (List (Int × Int))) (f : List (Int × Int)) : refL (fs ++ [f]) = refL fs ++ f.map fun it => (fs.length, it.1, it.2) := by
  simp [refL, List.zipIdx_append]

theorem refL_open (fs : List (List (Int × Int))) : refL (fs ++ [[]]) = refL fs := by rw [refL_snoc]; simp

theorem mem_refL {fs : List (List (Int × Int))} {b : Bd} : b ∈ refL fs ↔ ∃ (h : b.1 < fs.length), (b.2.1, b.2.2) ∈ fs[b.1] := by
  simp only [refL, List.mem_flatMap, List.mem_map, Prod.exists]
  constructor
  · rintro ⟨f, i, hq, k, x, hm, rfl⟩
    have h1 := List.mem_zipIdx' hq
    obtain ⟨h2, h3⟩ := h1
    exact ⟨h2, by dsimp only; rw [← h3]; exact hm⟩
  · rintro ⟨h, hm⟩
    refine ⟨fs[b.1], b.1, ?_, b.2.1, b.2.2, hm, rfl⟩
    exact List.mem_iff_getElem.2 ⟨b.1, by simpa using h, by simp⟩

theorem refL_close (fs : List (List (Int × Int))) (f : List (Int × Int)) : (refL (fs ++ [f])).filter (fun b => decide (b.1 < fs.length)) = refL fs := by
  rw [refL_snoc, List.filter_append]
  have h1 : (refL fs).filter (fun b => decide (b.1 < fs.length)) = refL fs := List.filter_eq_self.2 (fun b hb => by
    obtain ⟨h, _⟩ := mem_refL.1 hb
    simpa using h)
  have h2 : (f.map fun it => ((fs.length, it.1, it.2) : Bd)).filter (fun b => decide (b.1 < fs.length)) = [] := List.filter_eq_nil_iff.2 (fun b hb => by
    obtain ⟨it, _, rfl⟩ := List.mem_map.1 hb
    simp)
  rw [h1, h2, List.append_nil]

theorem refL_any (fs : List (List (Int × Int))) (f : List (Int × Int)) (k : Int) : (refL (fs ++ [f])).any (fun b => decide (b.1 = fs.length) && decide (b.2.1 = k)) = decide (k ∈ f.map (·.1)) := by
  rw [Bool.eq_iff_iff]
  simp only [List.any_eq_true, Bool.and_eq_true, decide_eq_true_eq]
  constructor
  · rintro ⟨b, hb, h1, rfl⟩
    rw [refL_snoc, List.mem_append] at hb
    rcases hb with hb | hb
    · obtain ⟨h, _⟩ := mem_refL.1 hb
      omega
    · obtain ⟨it, hit, rfl⟩ := List.mem_map.1 hb
      exact List.mem_map.2 ⟨it, hit, rfl⟩
  · intro hk
    obtain ⟨it, hit, rfl⟩ := List.mem_map.1 hk
    exact ⟨(fs.length, it.1, it.2), by rw [refL_snoc]; exact List.mem_append_right _ (List.mem_map.2 ⟨it, hit, rfl⟩), rfl, rfl⟩

theorem refL_bind (fs : List (List (Int × Int))) (f : List (Int × Int)) (k x : Int) : refL (fs ++ [f ++ [(k, x)]]) = refL (fs ++ [f]) ++ [(fs.length, k, x)] := by
  rw [refL_snoc, refL_snoc, List.map_append, List.append_assoc]; rfl

theorem refL_here (fs : List (List (Int × Int))) (f : List (Int × Int)) : ((refL (fs ++ [f])).filter fun b => decide (b.1 = fs.length)).map (·.2.1) = f.map (·.1) := by
  rw [refL_snoc, List.filter_append]
  have h1 : (refL fs).filter (fun b => decide (b.1 = fs.length)) = [] := List.filter_eq_nil_iff.2 (fun b hb => by
    obtain ⟨h, _⟩ := mem_refL.1 hb
    simp; omega)
  have h2 : (f.map fun it => ((fs.length, it.1, it.2) : Bd)).filter (fun b => decide (b.1 = fs.length)) = f.map fun it => (fs.length, it.1, it.2) := List.filter_eq_self.2 (fun b hb => by
    obtain ⟨it, _, rfl⟩ := List.mem_map.1 hb
    simp)
  rw [h1, h2, List.nil_append, List.map_map]
  rfl

theorem refL_sorted (fs : List (List (Int × Int))) : (refL fs).Pairwise (fun a b => a.1 ≤ b.1) := by
  suffices h : ∀ m, m ≤ fs.length → (refL (fs.take m)).Pairwise (fun a b => a.1 ≤ b.1) by
    have := h fs.length (Nat.le_refl _)
    rwa [List.take_length] at this
  intro m
  induction m with
  | zero => intro _; simp [refL]
  | succ m ih =>
    intro hm
    rw [List.take_succ_eq_append_getElem (by omega), refL_snoc, List.pairwise_append]
    refine ⟨ih (by omega), ?_, ?_⟩
    · rw [List.pairwise_map]
      exact List.pairwise_of_forall (fun _ _ => Nat.le_refl _)
    · intro a ha b hb
      obtain ⟨h, _⟩ := mem_refL.1 ha
      obtain ⟨it, _, rfl⟩ := List.mem_map.1 hb
      dsimp only
      omega

/-- The last binding of the key in the list is the one that the frames tell. -/
theorem LastBd.find {fs : List (List (Int × Int))} {k : Int} {r : Int × Int × Int} (h : LastBd (refL fs) k r) : FindRes fs k r := by
  rcases h with ⟨rfl, hno⟩ | ⟨j, hj, rfl, hk, hl⟩
  · refine .inl ⟨rfl, fun f hf hm => ?_⟩
    obtain ⟨i, hi, rfl⟩ := List.mem_iff_getElem.1 hf
    obtain ⟨it, hit, rfl⟩ := List.mem_map.1 hm
    exact hno (i, it.1, it.2) (mem_refL.2 ⟨hi, hit⟩) rfl
  · obtain ⟨hlt, hm⟩ := mem_refL.1 (List.getElem_mem hj)
    refine .inr ⟨(refL fs)[j].1, hlt, (refL fs)[j].2.2, rfl, by rw [← hk]; exact hm, fun i' hi' hlt' hm' => ?_⟩
    obtain ⟨it, hit, he⟩ := List.mem_map.1 hm'
    have hmem : ((i', it.1, it.2) : Bd) ∈ refL fs := mem_refL.2 ⟨hi', hit⟩
    obtain ⟨j', hj', hjj⟩ := List.mem_iff_getElem.1 hmem
    have hgt : j < j' := by
      rcases Nat.lt_or_ge j j' with h | h
      · exact h
      · rcases Nat.lt_or_ge j' j with h2 | h2
        · have := (List.pairwise_iff_getElem.1 (refL_sorted fs)) j' j hj' hj h2
          rw [hjj] at this
          dsimp only at this
          omega
        · obtain rfl : j = j' := by omega
          rw [hjj] at hlt'
          dsimp only at hlt'
          omega
    have := hl j' hj' hgt
    rw [hjj] at this
    exact this he

end Go.Proofs.Ytllcklddfcclfaa
