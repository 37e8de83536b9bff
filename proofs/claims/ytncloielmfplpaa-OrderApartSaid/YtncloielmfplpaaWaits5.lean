/- Which groups wait for which, in memory: a list of sets. -/
import Derived.Test.YtncloielmfplpaaMem5
import Derived.Test.YtncloielmfplpaaSched5
import Derived.WalkKit
namespace Go.Proofs.Ytncloielmfplpaa
open Go.RowKit
set_option linter.unusedVariables false
set_option linter.unusedSimpArgs false

/-- A set's entries. -/
def kvs (l : List Nat) : List (Value × Value) := l.map fun (e : Nat) => (Value.int .i64 (e : Int), Value.agg #[])

theorem kvs_keys {l : List Nat} {x : Nat} (h : ∀ p ∈ kvs l, p.1 ≠ Value.int .i64 (x : Int)) : x ∉ l := fun hx => h _ (List.mem_map.2 ⟨x, hx, rfl⟩) rfl

theorem kvs_get {l : List Nat} {x j : Nat} {u : Value} (h : (kvs l)[j]? = some (Value.int .i64 (x : Int), u)) : l[j]? = some x ∧ u = .agg #[] := by
  unfold kvs at h
  rw [List.getElem?_map, Option.map_eq_some_iff] at h
  obtain ⟨e, h1, h2⟩ := h
  simp only [Prod.mk.injEq, Value.int.injEq, true_and] at h2
  obtain ⟨h3, h4⟩ := h2
  obtain rfl : e = x := by omega
  exact ⟨h1, h4.symm⟩

theorem kvs_put {l : List Nat} {x : Nat} {m : List (Value × Value)} (h : ((∀ p ∈ kvs l, p.1 ≠ Value.int .i64 (x : Int)) ∧ m = kvs l ++ [(Value.int .i64 (x : Int), Value.agg #[])]) ∨ ∃ (j : Nat) (u : Value), (kvs l)[j]? = some (Value.int .i64 (x : Int), u) ∧ m = (kvs l).set j (Value.int .i64 (x : Int), Value.agg #[])) : m = kvs (putL l x) := by
  rcases h with ⟨h1, rfl⟩ | ⟨j, u, h1, rfl⟩
  · unfold putL
    rw [if_neg (kvs_keys h1)]
    simp [kvs]
  · obtain ⟨h2, rfl⟩ := kvs_get h1
    unfold putL
    rw [if_pos (List.mem_of_getElem? h2)]
    apply List.ext_getElem?
    intro i
    rw [List.getElem?_set]
    split
    · rename_i e
      subst e
      have := (List.getElem?_eq_some_iff.1 h1).1
      rw [if_pos this, h1]
    · rfl

theorem erase_filter {l : List Nat} (hn : l.Nodup) {x j : Nat} (h : l[j]? = some x) : l.eraseIdx j = l.filter (· != x) := by
  induction l generalizing j with
  | nil => simp at h
  | cons a l ih =>
    rw [List.nodup_cons] at hn
    cases j with
    | zero =>
      simp only [List.getElem?_cons_zero, Option.some.injEq] at h
      subst h
      rw [List.eraseIdx_cons_zero, List.filter_cons]
      simp only [bne_self_eq_false, Bool.false_eq_true, if_false]
      refine (List.filter_eq_self.2 fun b hb => ?_).symm
      simp only [bne_iff_ne, ne_eq]
      rintro rfl
      exact hn.1 hb
    | succ j =>
      simp only [List.getElem?_cons_succ] at h
      rw [List.eraseIdx_cons_succ, ih hn.2 h, List.filter_cons]
      have : (a != x) = true := by
        simp only [bne_iff_ne, ne_eq]
        rintro rfl
        exact hn.1 (List.mem_of_getElem? h)
      rw [if_pos this]

theorem kvs_cut {l : List Nat} (hn : l.Nodup) {x : Nat} {m : List (Value × Value)} (h : ((∀ p ∈ kvs l, p.1 ≠ Value.int .i64 (x : Int)) ∧ m = kvs l) ∨ ∃ (j : Nat) (u : Value), (kvs l)[j]? = some (Value.int .i64 (x : Int), u) ∧ m = (kvs l).eraseIdx j) : m = kvs (l.filter (· != x)) := by
  rcases h with ⟨h1, rfl⟩ | ⟨j, u, h1, rfl⟩
  · have hx := kvs_keys h1
    congr 1
    refine (List.filter_eq_self.2 fun b hb => ?_).symm
    simp only [bne_iff_ne, ne_eq]
    rintro rfl
    exact hx hb
  · obtain ⟨h2, rfl⟩ := kvs_get h1
    rw [← erase_filter hn h2]
    unfold kvs
    apply List.ext_getElem?
    intro i
    simp only [List.getElem?_map, List.getElem?_eraseIdx]
    split <;> rfl

/-- v is a slice of c sets: WS; mb: where each lies. -/
structure WaitsIs (w : World) (v : Value) (c : Nat) (mb : Nat → Option Nat) (WS : Nat → List Nat) : Prop where
  own : Own w 70 1 v c ((List.range c).map fun d => .map (mb d))
  maps : ∀ d b, d < c → mb d = some b → MapIs w (MapKept.IsKey (.int .i64)) b (kvs (WS d))
  empty : ∀ d, d < c → mb d = none → WS d = []
  out : ∀ d, c ≤ d → WS d = []
  inj : ∀ d e b, d < c → e < c → mb d = some b → mb e = some b → d = e
  apart : ∀ d b, d < c → mb d = some b → v.ownBlock ≠ some b

/-- Its blocks. -/
def WF (v : Value) (c : Nat) (mb : Nat → Option Nat) (b : Nat) : Prop := v.ownBlock = some b ∨ ∃ d, d < c ∧ mb d = some b

theorem WaitsIs.lt {w : World} {v : Value} {c : Nat} {mb : Nat → Option Nat} {WS : Nat → List Nat} (h : WaitsIs w v c mb WS) {b : Nat} (hb : WF v c mb b) : b < w.heap.size := by
  rcases hb with hb | ⟨d, hd, hb⟩
  · exact h.own.lt hb
  · exact (h.maps d b hd hb).lt

theorem WaitsIs.frame {w w' : World} {v : Value} {c : Nat} {mb : Nat → Option Nat} {WS : Nat → List Nat} {G : Nat → Prop} (h : WaitsIs w v c mb WS) (hk : Kept G w w') (hd : ∀ b, WF v c mb b → ¬ G b) : WaitsIs w' v c mb WS :=
  ⟨h.own.frame hk (fun b hb => hd b (.inl hb)), fun d b h1 h2 => (h.maps d b h1 h2).frame hk (hd b (.inr ⟨d, h1, h2⟩)), h.empty, h.out, h.inj, h.apart⟩

theorem WaitsIs.made {w : World} {v : Value} {c : Nat} (h : Own w 70 1 v c (List.replicate c (.map none))) : WaitsIs w v c (fun _ => none) (fun _ => []) :=
  ⟨by rw [List.map_const', List.length_range]; exact h, fun d b _ h => (by cases h), fun _ _ _ => rfl, fun _ _ => rfl, fun d e b _ _ h => (by cases h), fun d b _ h => (by cases h)⟩

/-- One set's cell. -/
theorem WaitsIs.cell {w : World} {g off c n : Nat} {mb : Nat → Option Nat} {WS : Nat → List Nat} (h : WaitsIs w (.slice (some ⟨g, off, none⟩) c n) c mb WS) {d : Nat} (hd : d < c) : w.cell? ⟨g, off + d, none⟩ = some (.map (mb d)) ∧ w.frozen? ⟨g, off + d, none⟩ = false ∧ g < w.heap.size := by
  obtain ⟨g', off', cap, hv, _, _, h1, h2, h3⟩ := h.own.elt (by omega)
  simp only [Value.slice.injEq, Option.some.injEq, Addr.mk.injEq, and_true] at hv
  obtain ⟨⟨rfl, rfl⟩, _⟩ := hv
  exact ⟨h1 d _ (by simp [hd]), h2 _, h3⟩

/-- mb where d's set lies in block b. -/
def setM (mb : Nat → Option Nat) (d b : Nat) : Nat → Option Nat := fun x => if x = d then some b else mb x

/-- A new set laid. -/
theorem WaitsIs.fresh {w w1 : World} {g off c n : Nat} {mb : Nat → Option Nat} {WS : Nat → List Nat} (h : WaitsIs w (.slice (some ⟨g, off, none⟩) c n) c mb WS) {d : Nat} (hd : d < c) (hm : mb d = none) {b : Nat} (hk : Kept (fun _ => False) w w1) (hb : w.heap.size ≤ b) (hw : MapIs w1 (MapKept.IsKey (.int .i64)) b []) :
    WaitsIs (w1.setCell ⟨g, off + d, none⟩ (.map (some b))) (.slice (some ⟨g, off, none⟩) c n) c (setM mb d b) WS := by
  have h1 := h.frame hk (fun _ _ => id)
  have hg : g < w.heap.size := h.own.lt (by simp [Value.ownBlock])
  have hne : ∀ e b', e < c → mb e = some b' → b' ≠ b := fun e b' he hb' => by have := (h.maps e b' he hb').lt; omega
  refine ⟨?_, fun e b' he hb' => ?_, fun e he hb' => ?_, h.out, fun e f b' he hf h2 h3 => ?_, fun e b' he hb' => ?_⟩
  · have := h1.own.setAt (j := d) (by omega) (.map (some b))
    have e1 : ((List.range c).map fun d => Value.map (mb d)).set d (.map (some b)) = (List.range c).map fun x => Value.map (setM mb d b x) := by
      apply List.ext_getElem (by simp)
      intro i h1 h2
      simp only [List.getElem_set, List.getElem_map, List.getElem_range, setM]
      split
      · rename_i e; subst e; simp
      · rename_i e; rw [if_neg (Ne.symm e)]
    rw [e1] at this
    exact this
  · unfold setM at hb'
    split at hb'
    · rename_i e1
      subst e1
      obtain rfl : b = b' := by simpa using hb'
      rw [h.empty e hd hm]
      exact hw.kept (heap_set_ne (p := ⟨g, off + e, none⟩) (by show b ≠ g; omega) _)
    · have hbg : b' ≠ g := fun e1 => h.apart e b' he hb' (by rw [e1]; simp [Value.ownBlock])
      exact (h1.maps e b' he hb').kept (heap_set_ne (p := ⟨g, off + d, none⟩) hbg _)
  · unfold setM at hb'
    split at hb'
    · cases hb'
    · exact h.empty e he hb'
  · unfold setM at h2 h3
    split at h2 <;> split at h3
    · omega
    · obtain rfl : b = b' := by simpa using h2
      exact absurd rfl (hne f b hf h3)
    · obtain rfl : b = b' := by simpa using h3
      exact absurd rfl (hne e b he h2)
    · exact h.inj e f b' he hf h2 h3
  · unfold setM at hb'
    split at hb'
    · obtain rfl : b = b' := by simpa using hb'
      simp [Value.ownBlock]
      omega
    · exact h.apart e b' he hb'

/-- A set written. -/
theorem WaitsIs.turned {w w' : World} {v : Value} {c : Nat} {mb : Nat → Option Nat} {WS : Nat → List Nat} (h : WaitsIs w v c mb WS) {d b : Nat} (hd : d < c) (hb : mb d = some b) {l : List Nat} (hk : Kept (fun i => i = b) w w') (hm : MapIs w' (MapKept.IsKey (.int .i64)) b (kvs l)) :
    WaitsIs w' v c mb (setW WS d l) := by
  refine ⟨h.own.frame hk (fun b' hb' e => h.apart d b hd hb (by rw [hb', e])), fun e b' he hb' => ?_, fun e he hb' => ?_, fun e he => ?_, h.inj, h.apart⟩
  · unfold setW
    split
    · rename_i e1
      subst e1
      rw [hb] at hb'
      obtain rfl : b = b' := by simpa using hb'
      exact hm
    · rename_i e1
      exact (h.maps e b' he hb').frame hk (fun e2 => e1 (h.inj e d b he hd (by rw [hb', e2]) hb))
  · unfold setW
    split
    · rename_i e1
      subst e1
      rw [hb] at hb'
      cases hb'
    · exact h.empty e he hb'
  · unfold setW
    rw [if_neg (by omega)]
    exact h.out e he

theorem setW_same {WS : Nat → List Nat} {d : Nat} : setW WS d (WS d) = WS := by
  funext x
  unfold setW
  split
  · rename_i e; rw [e]
  · rfl

end Go.Proofs.Ytncloielmfplpaa
