/- order.Groups' memory. -/
import Derived.Test.YtncloielmfplpaaIdxf5
namespace Go.Proofs.Ytncloielmfplpaa
open Go.RowKit
set_option linter.unusedVariables false
set_option linter.unusedSimpArgs false

/-- The groups' numbers, the graph, the sets. -/
structure GW (L : List (List Nat)) (n : Nat) (gr : Nat → Nat) (c : Nat) (gv uv : Value) (F : Nat → Prop) (w wr : World) (wb : Nat) (mb : Nat → Option Nat) (WS : Nat → List Nat) : Prop where
  grp : Own wr 3 1 gv n (cellsOf encN ((List.range n).map gr))
  ls : LsN wr uv F L
  box : wr.heap[wb + 1]? = some (.cells #[.slice (some ⟨wb, 0, none⟩) c c] 69 (0, 0))
  wts : WaitsIs wr (.slice (some ⟨wb, 0, none⟩) c c) c mb WS
  gl : ∀ b, gv.ownBlock = some b → b < wb
  fl : ∀ b, F b → b < wb
  ml : ∀ d b, d < c → mb d = some b → wb + 1 < b
  lo : w.heap.size ≤ wb
  kept : Kept (fun _ => False) w wr

section
variable {L : List (List Nat)} {n : Nat} {gr : Nat → Nat} {c : Nat} {gv uv : Value} {F : Nat → Prop} {w wr w' : World} {wb : Nat} {mb : Nat → Option Nat} {WS : Nat → List Nat}

theorem GW.frame {G : Nat → Prop} (h : GW L n gr c gv uv F w wr wb mb WS) (hk : Kept G wr w') (h1 : ∀ b, G b → wb + 1 < b) (h2 : ∀ d b, d < c → mb d = some b → ¬ G b) : GW L n gr c gv uv F w w' wb mb WS := by
  have hlo := h.lo
  refine ⟨h.grp.frame hk (fun b hb g => by have := h.gl b hb; have := h1 b g; omega), h.ls.frame hk (fun b hb g => by have := h.fl b hb; have := h1 b g; omega), (hk.block _ (heap_lt h.box) (fun g => by have := h1 _ g; omega)).trans h.box, h.wts.frame hk (fun b hb g => ?_), h.gl, h.fl, h.ml, h.lo, h.kept.trans' hk (fun i hi g => by have := h1 i g; omega)⟩
  rcases hb with hb | ⟨d, hd, hb⟩
  · simp [Value.ownBlock] at hb
    have := h1 b g
    omega
  · exact h2 d b hd hb g

theorem GW.same (h : GW L n gr c gv uv F w wr wb mb WS) (hk : Kept (fun _ => False) wr w') : GW L n gr c gv uv F w w' wb mb WS := h.frame hk (fun _ h => h.elim) (fun _ _ _ _ h => h)

/-- A group's number in its cell. -/
theorem GW.num (h : GW L n gr c gv uv F w wr wb mb WS) {g off m : Nat} (hgv : gv = .slice (some ⟨g, off, none⟩) n m) {x : Nat} (hx : x < n) : wr.cell? ⟨g, off + x, none⟩ = some (.int .i64 (gr x : Int)) := by
  obtain ⟨g', off', cap, hv, _, _, hcl, _, _⟩ := h.grp.elt (by omega)
  rw [hgv] at hv
  simp only [Value.slice.injEq, Option.some.injEq, Addr.mk.injEq, and_true, true_and] at hv
  obtain ⟨⟨rfl, rfl⟩, _⟩ := hv
  exact hcl x _ (by rw [cellsOf_encN]; simp [hx])

theorem GW.boxc (h : GW L n gr c gv uv F w wr wb mb WS) : wr.cell? ⟨wb + 1, 0, none⟩ = some (.slice (some ⟨wb, 0, none⟩) c c) := cell_of h.box rfl
theorem GW.mapc (h : GW L n gr c gv uv F w wr wb mb WS) {d : Nat} (hd : d < c) : wr.cell? ⟨wb, d, none⟩ = some (.map (mb d)) ∧ wr.frozen? ⟨wb, d, none⟩ = false ∧ wb < wr.heap.size := by
  have := h.wts.cell hd
  rw [Nat.zero_add] at this
  exact this

/-- A new set. -/
theorem GW.fresh {w1 : World} (h : GW L n gr c gv uv F w wr wb mb WS) {d : Nat} (hd : d < c) (hm : mb d = none) {b : Nat} (hk : Kept (fun _ => False) wr w1) (hb : wr.heap.size ≤ b) (hw : MapIs w1 (MapKept.IsKey (.int .i64)) b []) :
    GW L n gr c gv uv F w (w1.setCell ⟨wb, d, none⟩ (.map (some b))) wb (setM mb d b) WS := by
  have h1 := h.same hk
  have hlo := h.lo
  have hbx := heap_lt h.box
  have hk2 : Kept (fun i => i = wb) w1 (w1.setCell ⟨wb, d, none⟩ (.map (some b))) := (Kept.refl (fun i => i = wb) w1).setCell (p := ⟨wb, d, none⟩) (fun _ => rfl) _
  have hf := h.wts.fresh hd hm hk hb hw
  rw [Nat.zero_add] at hf
  refine ⟨h1.grp.frame hk2 (fun b hb g => by have := h.gl b hb; omega), h1.ls.frame hk2 (fun b hb g => by have := h.fl b hb; omega), (hk2.block _ (heap_lt h1.box) (by omega)).trans h1.box, hf, h.gl, h.fl, fun e b' he hb' => ?_, h.lo, h1.kept.trans' hk2 (fun i hi g => by omega)⟩
  unfold setM at hb'
  split at hb'
  · obtain rfl : b = b' := by simpa using hb'
    omega
  · exact h.ml e b' he hb'

/-- A set written. -/
theorem GW.turned (h : GW L n gr c gv uv F w wr wb mb WS) {d b : Nat} (hd : d < c) (hb : mb d = some b) {l : List Nat} (hk : Kept (fun i => i = b) wr w') (hm : MapIs w' (MapKept.IsKey (.int .i64)) b (kvs l)) :
    GW L n gr c gv uv F w w' wb mb (setW WS d l) := by
  have hlo := h.lo
  have hmb := h.ml d b hd hb
  exact ⟨h.grp.frame hk (fun b hb g => by have := h.gl b hb; omega), h.ls.frame hk (fun b hb g => by have := h.fl b hb; omega), (hk.block _ (heap_lt h.box) (by omega)).trans h.box, h.wts.turned hd hb hk hm, h.gl, h.fl, h.ml, h.lo, h.kept.trans' hk (fun i hi g => by omega)⟩

end

/-- .. and which groups are told, and the groups told. -/
structure TM {α : Type} (T e : TypeId) (enc : α → Value) (L : List (List Nat)) (n : Nat) (gr : Nat → Nat) (c : Nat) (gv uv : Value) (F : Nat → Prop) (w wr : World) (wb tb : Nat) (mb : Nat → Option Nat) (WS : Nat → List Nat) (S : Nat → Bool) (ov : Value) (FO : Nat → Prop) (Ys : List (List α)) : Prop where
  gw : GW L n gr c gv uv F w wr wb mb WS
  tbx : wr.heap[tb + 1]? = some (.cells #[.slice (some ⟨tb, 0, none⟩) c c] 60 (0, 0))
  tld : Own wr 4 1 (.slice (some ⟨tb, 0, none⟩) c c) c (marksB c S)
  out : LsIs T e enc wr ov FO Ys
  mt : ∀ d b, d < c → mb d = some b → b < tb
  lt : wb + 1 < tb
  fo : ∀ b, FO b → tb + 1 < b

section
variable {α : Type} {T e : TypeId} {enc : α → Value} {L : List (List Nat)} {n : Nat} {gr : Nat → Nat} {c : Nat} {gv uv : Value} {F : Nat → Prop} {w wr w' : World} {wb tb : Nat} {mb : Nat → Option Nat} {WS : Nat → List Nat} {S : Nat → Bool} {ov : Value} {FO : Nat → Prop} {Ys : List (List α)}

theorem TM.frame {G : Nat → Prop} (h : TM T e enc L n gr c gv uv F w wr wb tb mb WS S ov FO Ys) (hk : Kept G wr w') (h1 : ∀ b, G b → tb + 1 < b ∧ ¬ FO b) : TM T e enc L n gr c gv uv F w w' wb tb mb WS S ov FO Ys := by
  have hlt := h.lt
  exact ⟨h.gw.frame hk (fun b g => by have := (h1 b g).1; omega) (fun d b hd hb g => by have := (h1 b g).1; have := h.mt d b hd hb; omega), (hk.block _ (heap_lt h.tbx) (fun g => by have := (h1 _ g).1; omega)).trans h.tbx,
    h.tld.frame hk (fun b hb g => by simp [Value.ownBlock] at hb; have := (h1 b g).1; omega), h.out.frame hk (fun b hb g => (h1 b g).2 hb), h.mt, h.lt, h.fo⟩

/-- A group's mark set. -/
theorem TM.mark (h : TM T e enc L n gr c gv uv F w wr wb tb mb WS S ov FO Ys) {d : Nat} (hd : d < c) : TM T e enc L n gr c gv uv F w (wr.setCell ⟨tb, d, none⟩ (.bool true)) wb tb mb WS (setB S d) ov FO Ys := by
  have hlt := h.lt
  have hk : Kept (fun b => b = tb) wr (wr.setCell ⟨tb, d, none⟩ (.bool true)) := (Kept.refl (fun b => b = tb) wr).setCell (p := ⟨tb, d, none⟩) (fun _ => rfl) _
  have hset := h.tld.setAt (j := d) (by omega) (.bool true)
  rw [Nat.zero_add, marksB_set] at hset
  exact ⟨h.gw.frame hk (fun b g => by omega) (fun d b hd hb g => by have := h.mt d b hd hb; omega), (hk.block _ (heap_lt h.tbx) (by omega)).trans h.tbx, hset, h.out.frame hk (fun b hb g => by have := h.fo b hb; omega), h.mt, h.lt, h.fo⟩

/-- A set written. -/
theorem TM.turned (h : TM T e enc L n gr c gv uv F w wr wb tb mb WS S ov FO Ys) {d b : Nat} (hd : d < c) (hb : mb d = some b) {l : List Nat} (hk : Kept (fun i => i = b) wr w') (hm : MapIs w' (MapKept.IsKey (.int .i64)) b (kvs l)) :
    TM T e enc L n gr c gv uv F w w' wb tb mb (setW WS d l) S ov FO Ys := by
  have hlt := h.lt
  have hbt := h.mt d b hd hb
  exact ⟨h.gw.turned hd hb hk hm, (hk.block _ (heap_lt h.tbx) (by omega)).trans h.tbx, h.tld.frame hk (fun b hb g => by simp [Value.ownBlock] at hb; omega), h.out.frame hk (fun b hb g => by have := h.fo b hb; omega), h.mt, h.lt, h.fo⟩

theorem TM.markc (h : TM T e enc L n gr c gv uv F w wr wb tb mb WS S ov FO Ys) {d : Nat} (hd : d < c) : wr.cell? ⟨tb + 1, 0, none⟩ = some (.slice (some ⟨tb, 0, none⟩) c c) ∧ wr.cell? ⟨tb, d, none⟩ = some (.bool (S d)) ∧ wr.frozen? ⟨tb, d, none⟩ = false := by
  obtain ⟨g', off', cap', hv, _, _, hcl, hf, _⟩ := h.tld.elt (by omega)
  simp only [Value.slice.injEq, Option.some.injEq, Addr.mk.injEq, and_true, true_and] at hv
  obtain ⟨⟨rfl, rfl⟩, rfl⟩ := hv
  have := hcl d _ (marksB_get S hd)
  rw [Nat.zero_add] at this
  exact ⟨cell_of h.tbx rfl, this, hf _⟩

/-- A group more. -/
theorem TM.snoc (h : TM T e enc L n gr c gv uv F w wr wb tb mb WS S ov FO Ys) {vs : List Value} (p1 : Own wr T 1 ov vs.length vs) (p2 : VsIs e enc wr vs Ys) (o3 : ∀ v ∈ vs, ∀ b, v.ownBlock = some b → ov.ownBlock ≠ some b) (o4 : ∀ b, FO b ↔ (ov.ownBlock = some b ∨ ∃ v ∈ vs, v.ownBlock = some b))
    {mv ov2 : Value} {Y : List α} {o : Obj} (hm : Own wr e 1 mv Y.length (cellsOf enc Y)) (hmb : ∀ b, mv.ownBlock = some b → tb + 1 < b ∧ ¬ FO b)
    (hk : Kept (fun b => ov.ownBlock = some b) (wr.alloc o) w') (hb2 : ∀ b, ov2.ownBlock = some b → ov.ownBlock = some b ∨ (wr.alloc o).heap.size ≤ b) (hg : Own w' T 1 ov2 (vs.length + 1) (vs ++ [mv])) :
    ∃ FO', TM T e enc L n gr c gv uv F w w' wb tb mb WS S ov2 FO' (Ys ++ [Y]) := by
  have hlt := h.lt
  have htb := heap_lt h.tbx
  have h0 := h.frame ((Kept.refl (fun _ => False) wr).alloc o) (fun _ h => h.elim)
  have o1 := p1.alloc o
  have o2 : VsIs e enc (wr.alloc o) vs Ys := p2.frame ((Kept.refl (fun _ => False) wr).alloc o) (fun _ _ _ _ => id)
  have hovF : ∀ b, ov.ownBlock = some b → FO b := fun b hb => (o4 b).2 (.inl hb)
  obtain ⟨FO', q1, q2⟩ := LsIs.snoc o1 o2 o3 o4 (hm.alloc o) (fun b hb => (hmb b hb).2) hk hg hb2
  have hfo : ∀ b, ov.ownBlock = some b → tb + 1 < b := fun b hb => h.fo b (hovF b hb)
  refine ⟨FO', h0.gw.frame hk (fun b g => by have := hfo b g; omega) (fun d b hd hb g => by have := hfo b g; have := h.mt d b hd hb; omega), (hk.block _ (heap_lt h0.tbx) (fun g => by have := hfo _ g; omega)).trans h0.tbx,
    h0.tld.frame hk (fun b hb g => by simp [Value.ownBlock] at hb; have := hfo b g; omega), q1, h.mt, h.lt, fun b hb => ?_⟩
  rcases q2 b hb with h1 | h1 | h1
  · exact h.fo b h1
  · exact (hmb b h1).1
  · simp at h1
    omega

end

theorem run_delete_nil5 (w : World) (ty : TypeId) (x : Int) : (Builtin.delete_ #[70, 3] ty #[.map none, .int .i64 x]).run Try.prog w = .ok (.tuple #[]) w := by
  simp [Builtin.delete_, run_underlying Try.underlying70, koI.check w true (ikI x), Result.andThen]
  have := koI.check w true (ikI x)
  simp [encI] at this
  simp [this, Result.andThen]

end Go.Proofs.Ytncloielmfplpaa
