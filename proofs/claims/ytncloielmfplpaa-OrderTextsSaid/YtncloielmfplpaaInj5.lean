/- Plain: other names in the things' places: the same groups, the same reach. -/
import Derived.Test.YtncloielmfplpaaParts5
namespace Go.Proofs.Ytncloielmfplpaa
set_option linter.unusedVariables false
set_option linter.unusedSimpArgs false

section
variable {α β : Type} {f : α → β}

theorem idxOf_map5 [BEq α] [LawfulBEq α] [BEq β] [LawfulBEq β] (hf : ∀ a b, f a = f b → a = b) (l : List α) (x : α) : (l.map f).idxOf (f x) = l.idxOf x := by
  induction l with
  | nil => rfl
  | cons a l ih =>
    rw [List.map_cons, List.idxOf_cons, List.idxOf_cons, ih]
    by_cases h : a = x
    · subst h; simp
    · have h1 : (f a == f x) = false := by simpa using fun e => h (hf _ _ e)
      have h2 : (a == x) = false := by simpa using h
      rw [h1, h2]

theorem mem_map5 (hf : ∀ a b, f a = f b → a = b) {l : List α} {x : α} : f x ∈ l.map f ↔ x ∈ l := by
  rw [List.mem_map]
  exact ⟨fun ⟨a, h, e⟩ => by rw [← hf _ _ e]; exact h, fun h => ⟨x, h, rfl⟩⟩

theorem nodup_map5 (hf : ∀ a b, f a = f b → a = b) (l : List α) : (l.map f).Nodup ↔ l.Nodup := by
  induction l with
  | nil => simp
  | cons a l ih => rw [List.map_cons, List.nodup_cons, List.nodup_cons, ih, mem_map5 hf]

/-- Both of a pair. -/
def both5 (f : α → β) (u : α × α) : β × β := (f u.1, f u.2)

theorem errOf_map (hf : ∀ a b, f a = f b → a = b) (nodes : List α) (uses : List (α × α)) : errOf (nodes.map f) (uses.map (both5 f)) = errOf nodes uses := by
  unfold errOf
  have h : (∀ u ∈ uses.map (both5 f), u.1 ∈ nodes.map f ∧ u.2 ∈ nodes.map f) ↔ ∀ u ∈ uses, u.1 ∈ nodes ∧ u.2 ∈ nodes := by
    constructor
    · intro h u hu
      have := h _ (List.mem_map.2 ⟨u, hu, rfl⟩)
      simpa only [both5, mem_map5 hf] using this
    · intro h u hu
      obtain ⟨v, hv, rfl⟩ := List.mem_map.1 hu
      simpa only [both5, mem_map5 hf] using h v hv
  by_cases a : nodes.Nodup
  · rw [if_pos ((nodup_map5 hf _).2 a), if_pos a]
    by_cases c : ∀ u ∈ uses, u.1 ∈ nodes ∧ u.2 ∈ nodes
    · rw [if_pos (h.2 c), if_pos c]
    · rw [if_neg (fun e => c (h.1 e)), if_neg c]
  · rw [if_neg (fun e => a ((nodup_map5 hf _).1 e)), if_neg a]

theorem graphL_map [BEq α] [LawfulBEq α] [BEq β] [LawfulBEq β] (hf : ∀ a b, f a = f b → a = b) (nodes : List α) (uses : List (α × α)) : graphL (nodes.map f) (uses.map (both5 f)) = graphL nodes uses := by
  unfold graphL prs
  rw [List.length_map, List.map_map]
  congr 1
  refine List.map_congr_left fun u _ => ?_
  simp only [Function.comp, both5, idxOf_map5 hf]

theorem pick_map (p : Nat → Bool) (l : List α) : pick p (l.map f) = (pick p l).map f := by
  unfold pick
  rw [List.zipIdx_map, List.filter_map, List.map_map, List.map_map]
  rfl

theorem rErr_map (hf : ∀ a b, f a = f b → a = b) (nodes : List α) (uses : List (α × α)) (x : α) : rErr (nodes.map f) (uses.map (both5 f)) (f x) = rErr nodes uses x := by
  unfold rErr
  rw [errOf_map hf]
  by_cases a : errOf nodes uses = 0
  · rw [if_pos a, if_pos a]
    by_cases c : x ∈ nodes
    · rw [if_pos ((mem_map5 hf).2 c), if_pos c]
    · rw [if_neg (fun e => c ((mem_map5 hf).1 e)), if_neg c]
  · rw [if_neg a, if_neg a]

theorem rOut_map [BEq α] [LawfulBEq α] [BEq β] [LawfulBEq β] (hf : ∀ a b, f a = f b → a = b) (nodes : List α) (uses : List (α × α)) (x : α) : rOut (nodes.map f) (uses.map (both5 f)) (f x) = (rOut nodes uses x).map f := by
  unfold rOut
  rw [rErr_map hf, graphL_map hf, idxOf_map5 hf, pick_map]
  split <;> rfl

theorem gOut_map [BEq α] [LawfulBEq α] [BEq β] [LawfulBEq β] (hf : ∀ a b, f a = f b → a = b) (nodes : List α) (uses : List (α × α)) : gOut (nodes.map f) (uses.map (both5 f)) = (gOut nodes uses).map (List.map f) := by
  unfold gOut
  rw [errOf_map hf, graphL_map hf, List.length_map]
  split
  · rw [List.map_map]
    refine List.map_congr_left fun o _ => ?_
    rw [pick_map]
    rfl
  · rfl

end

end Go.Proofs.Ytncloielmfplpaa
