/- order.graph.reach and order.Reach at one type of things. -/
import Derived.Test.YtncloielmfplpaaGraphOfS
import Derived.Deep.LoopGhost
namespace Go.Proofs.Ytncloielmfplpaa
open Go.RowKit
set_option linter.unusedVariables false
set_option linter.unusedSimpArgs false

/-- reach's memory in the midst: the marks S, what is to do T; D: those of at's uses that are still to be looked at. -/
structure RMemS (L : List (List Nat)) (n a : Nat) (w wr : World) (gb mb : Nat) (nv uv mv tv : Value) (S : Nat → Bool) (T : List Nat) (at_ : Nat) (D : List Nat) : Prop where
  cell : wr.heap[gb]? = some (.cells #[nv, uv] 75 (0, 0))
  inn : Own wr 4 1 mv n (marksB n S)
  todo : Own wr 3 1 tv T.length (cellsOf encN T)
  tb : ∀ b, tv.ownBlock = some b → w.heap.size ≤ b ∧ b ≠ gb ∧ b ≠ mb
  kept : Kept (fun b => w.heap.size ≤ b) w wr
  here : S a = true
  sound : ∀ x, S x = true → Reach (nxt L) a x ∧ x < n
  sub : ∀ x ∈ T, S x = true
  closed : ∀ x z, S x = true → z ∈ nxt L x → S z = true ∨ x ∈ T ∨ (x = at_ ∧ z ∈ D)
  cnt : T.length + um n S ≤ n

section
variable {L : List (List Nat)} {n a : Nat} {w wr : World} {gb mb : Nat} {nv uv tv : Value} {S : Nat → Bool} {T D : List Nat} {at_ : Nat}

/-- The last thing to do taken off. -/
theorem RMemS.pop {mv : Value} {tb to tc : Nat} (h : RMemS L n a w wr gb mb nv uv mv (.slice (some ⟨tb, to, none⟩) (T.length + 1) tc) S (T ++ [at_]) at_ []) :
    RMemS L n a w wr gb mb nv uv mv (.slice (some ⟨tb, to, none⟩) T.length tc) S T at_ (nxt L at_) := by
  have ht := h.todo
  rw [List.length_append, List.length_singleton] at ht
  have hs := ht.sub (k := T.length) (by omega)
  rw [cellsOf_append, List.take_append_of_le_length (by rw [cellsOf_length (enc := encN) (sz := 1) (fun _ => rfl)]; omega), List.take_of_length_le (by rw [cellsOf_length (enc := encN) (sz := 1) (fun _ => rfl)]; omega)] at hs
  refine ⟨h.cell, h.inn, hs, h.tb, h.kept, h.here, h.sound, fun x hx => h.sub x (by simp [hx]), fun x z hx hz => ?_, ?_⟩
  · rcases h.closed x z hx hz with h1 | h1 | ⟨_, h1⟩
    · exact .inl h1
    · rcases List.mem_append.1 h1 with h1 | h1
      · exact .inr (.inl h1)
      · simp only [List.mem_singleton] at h1
        subst h1
        exact .inr (.inr ⟨rfl, hz⟩)
    · simp at h1
  · have := h.cnt
    simp only [List.length_append, List.length_singleton] at this
    omega

theorem RMemS.skip {mv : Value} {z : Nat} (h : RMemS L n a w wr gb mb nv uv mv tv S T at_ (z :: D)) (hz : S z = true) : RMemS L n a w wr gb mb nv uv mv tv S T at_ D :=
  ⟨h.cell, h.inn, h.todo, h.tb, h.kept, h.here, h.sound, h.sub, fun x y hx hy => by
    rcases h.closed x y hx hy with h1 | h1 | ⟨h1, h2⟩
    · exact .inl h1
    · exact .inr (.inl h1)
    · rcases List.mem_cons.1 h2 with rfl | h2
      · exact .inl hz
      · exact .inr (.inr ⟨h1, h2⟩), h.cnt⟩

theorem RMemS.push {mo mc : Nat} {z : Nat} {tv2 : Value} {o : Obj} {w2 : World} (h : RMemS L n a w wr gb mb nv uv (.slice (some ⟨mb, mo, none⟩) n mc) tv S T at_ (z :: D)) (hg : gb ≠ mb) (hm : w.heap.size ≤ mb) (hz : S z = false) (hzn : z < n) (hat : S at_ = true) (hzat : z ∈ nxt L at_)
    (hk2 : Kept (fun b => tv.ownBlock = some b) ((wr.setCell ⟨mb, mo + z, none⟩ (.bool true)).alloc o) w2) (ho2 : Own w2 3 1 tv2 (T.length + 1) (cellsOf encN T ++ cellsOf encN [z])) (hb2 : ∀ b, tv2.ownBlock = some b → tv.ownBlock = some b ∨ wr.heap.size + 1 ≤ b) :
    RMemS L n a w w2 gb mb nv uv (.slice (some ⟨mb, mo, none⟩) n mc) tv2 (setB S z) (T ++ [z]) at_ D := by
  have h1 := h.inn.setAt (j := z) (by omega) (.bool true)
  rw [marksB_set] at h1
  have hml : mb < wr.heap.size := h.inn.lt (by simp [Value.ownBlock])
  have hgl := heap_lt h.cell
  have hks : Kept (fun b => b = mb) wr ((wr.setCell ⟨mb, mo + z, none⟩ (.bool true)).alloc o) := ((Kept.refl (fun b => b = mb) wr).setCell (p := ⟨mb, _, none⟩) (fun _ => rfl) _).alloc o
  have hall : ∀ x, setB S z x = true → S x = true ∨ x = z := fun x hx => setB_iff.1 hx
  refine ⟨(hk2.block gb (by simp; omega) (fun e => (h.tb gb e).2.1 rfl)).trans ((hks.block gb hgl hg).trans h.cell), (h1.alloc o).frame hk2 (fun b hb e => by
      simp [Value.ownBlock] at hb
      subst hb
      exact (h.tb _ e).2.2 rfl), by rw [cellsOf_append]; simpa using ho2, fun b hb => ?_, (h.kept.trans' hks (fun i hi e => by subst e; exact hm)).trans' hk2 (fun i hi e => (h.tb i e).1), setB_iff.2 (.inl h.here), fun x hx => ?_, fun x hx => ?_, fun x y hx hy => ?_, ?_⟩
  · rcases hb2 b hb with h3 | h3
    · exact h.tb b h3
    · have := h.kept.size
      exact ⟨by omega, by omega, by omega⟩
  · rcases hall x hx with h3 | rfl
    · exact h.sound x h3
    · exact ⟨.step (h.sound _ hat).1 hzat, hzn⟩
  · rcases List.mem_append.1 hx with hx | hx
    · exact setB_iff.2 (.inl (h.sub x hx))
    · exact setB_iff.2 (.inr (by simpa using hx))
  · rcases hall x hx with h3 | rfl
    · rcases h.closed x y h3 hy with h4 | h4 | ⟨h4, h5⟩
      · exact .inl (setB_iff.2 (.inl h4))
      · exact .inr (.inl (by simp [h4]))
      · rcases List.mem_cons.1 h5 with rfl | h5
        · exact .inl (setB_iff.2 (.inr rfl))
        · exact .inr (.inr ⟨h4, h5⟩)
    · exact .inr (.inl (by simp))
  · have := h.cnt
    have := um_set hzn hz
    simp only [List.length_append, List.length_singleton]
    omega

end

set_option maxRecDepth 100000 in
set_option maxHeartbeats 4000000 in
theorem reachInS {L : List (List Nat)} {n a : Nat} (hn : L.length = n) (hn1 : n ≤ 100) (hL : ∀ x z, z ∈ nxt L x → z < n) (ha : a < n) {w : World} {na : Option Addr} {nc : Nat} {uv : Value} {F : Nat → Prop} (hG : LsN w uv F L) (hnc : n ≤ nc) (hnm : nc ≤ maxLen) :
    Calls Try.prog 41 #[.agg #[.slice na n nc, uv], .int .i64 a] w fun e w' => ∃ v, e = .returned v ∧ Own w' 4 1 v n (marksB n (rb L a)) ∧ Kept (fun _ => False) w w' ∧ ∀ b, v.ownBlock = some b → w.heap.size ≤ b := by
  subst hn
  obtain ⟨ug, uo, uc, rw0, rfl, uu1, uu2, rw1⟩ := hG.row ha
  clear rw0 rw1
  obtain ⟨n, hne⟩ : ∃ n, n = L.length := ⟨_, rfl⟩
  rw [← hne] at hn1 ha uu1 hL hG hnc ⊢
  have hn : L.length = n := hne.symm
  clear hne
  have hwg := heap_alloc_new w (.cells #[.slice na n nc, .slice (some ⟨ug, uo, none⟩) n uc] 75)
  obtain ⟨wm, hrun, hmo, hmk, hms⟩ := run_make_one slBool rfl (w.alloc (.cells #[.slice na n nc, .slice (some ⟨ug, uo, none⟩) n uc] 75)) n n (Nat.le_refl _) (by omega) (by unfold maxLen; omega)
  replace hrun := hrun _ _ rfl rfl
  have hsz1 : (w.alloc (.cells #[.slice na n nc, .slice (some ⟨ug, uo, none⟩) n uc] 75)).heap.size = w.heap.size + 1 := by simp
  rw [hsz1] at hrun hmo hms
  have hset := hmo.setAt (j := a) (by omega) (.bool true)
  rw [← marksB_false, marksB_set] at hset
  rw [Nat.zero_add] at hset
  have hcw : (wm.setCell ⟨w.heap.size + 1, a, none⟩ (.bool true)).heap[w.heap.size]? = some (.cells #[.slice na n nc, .slice (some ⟨ug, uo, none⟩) n uc] 75 (0, 0)) :=
    (heap_set_ne (p := ⟨w.heap.size + 1, a, none⟩) (by show w.heap.size ≠ w.heap.size + 1; omega) _).trans ((hmk.block w.heap.size (by rw [hsz1]; omega) id).trans hwg)
  have hkw : Kept (fun b => w.heap.size ≤ b) w (wm.setCell ⟨w.heap.size + 1, a, none⟩ (.bool true)) := ((((Kept.refl _ w).alloc _).trans' hmk (fun _ _ h => h.elim)).setCell (p := ⟨w.heap.size + 1, a, none⟩) (fun _ => by show w.heap.size ≤ w.heap.size + 1; omega) _)
  have f0 : wm.frozen? ⟨w.heap.size + 1, a, none⟩ = false := by
    obtain ⟨g', off', cap', hv, _, _, _, hf, _⟩ := hmo.elt (by omega)
    simp only [Value.slice.injEq, Option.some.injEq, Addr.mk.injEq, true_and, and_true] at hv
    obtain ⟨⟨rfl, rfl⟩, hv2⟩ := hv
    exact hf _
  have q0 : wm.cell? ⟨w.heap.size + 1, a, none⟩ = some (.bool false) := by
    obtain ⟨g', off', cap', hv, _, _, hc, _, _⟩ := hmo.elt (by omega)
    simp only [Value.slice.injEq, Option.some.injEq, Addr.mk.injEq, true_and, and_true] at hv
    obtain ⟨⟨rfl, rfl⟩, hv2⟩ := hv
    have := hc a (.bool false) (by simp [ha])
    rwa [Nat.zero_add] at this
  have hum := um_set (S := fun _ => false) ha rfl
  have hum2 := um_le n (fun _ => false)
  have hai : (a : Int) < (n : Int) := by omega
  have hni : n ≤ 9223372036854775807 := by omega
  have hM0 : RMemS L n a w ((wm.setCell ⟨w.heap.size + 1, a, none⟩ (.bool true)).alloc (.cells #[.int .i64 (a : Int)] 3)) w.heap.size (w.heap.size + 1) (.slice na n nc) (.slice (some ⟨ug, uo, none⟩) n uc) (.slice (some ⟨w.heap.size + 1, 0, none⟩) n n) (.slice (some ⟨wm.heap.size, 0, none⟩) 1 1) (setB (fun _ => false) a) [a] 0 [] := by
    have hfr := Own.fresh (w := wm.setCell ⟨w.heap.size + 1, a, none⟩ (.bool true)) (e := 3) (sz := 1) (n := 1) (cs := #[.int .i64 (a : Int)]) (by rfl) (by decide)
    refine ⟨heap_alloc hcw _, hset.alloc _, by simpa [cellsOf_encN_one] using hfr, fun b hb => ?_, hkw.alloc _, by simp [setB], fun x hx => ?_, fun x hx => ?_, fun x z hx hz => ?_, ?_⟩
    · simp [Value.ownBlock] at hb
      omega
    · have : x = a := by simpa [setB] using hx
      subst this
      exact ⟨.refl _, ha⟩
    · simp at hx
      subst hx
      simp [setB]
    · have : x = a := by simpa [setB] using hx
      exact .inr (.inl (by simp [this]))
    · simp
      omega
  rw [hms] at hM0
  have HM0 := Lib.hid hM0
  have HG := Lib.hid hG
  have HL := Lib.hid hL
  have HN := Lib.hid hn
  have HFL : Hid (∀ b, F b → b < w.heap.size) := Lib.hid fun b hb => hG.lt hb
  clear hM0 hG hL hn hset hcw hkw hum hum2 hmo hmk hwg
  go_enter Try.func41, Try.ntmps41
  go_wp2_with fail
  generalize (wm.setCell ⟨w.heap.size + 1, a, none⟩ (.bool true)).alloc (.cells #[.int .i64 (a : Int)] 3) = w1 at HM0 ⊢
  go_loopg [6] (2 * um n (setB (fun _ => false) a) + 1) (fun g tv wr => ∃ ta tc T S, tv = .slice ta (List.length T) tc ∧ Hid (RMemS L n a w wr w.heap.size (w.heap.size + 1) (.slice na n nc) (.slice (some ⟨ug, uo, none⟩) n uc) (.slice (some ⟨w.heap.size + 1, 0, none⟩) n n) tv S T 0 [] ∧ 2 * um n S + T.length = g))
  case atStart => exact ⟨_, _, [a], _, rfl, Lib.hid ⟨HM0.out, rfl⟩⟩
  case round =>
    clear HM0 f0 q0 hrun hms hsz1
    obtain ⟨ta, tc, T, S, rfl, hH⟩ := hrel
    obtain ⟨hM, hg⟩ := hH.out
    rcases List.eq_nil_or_concat T with rfl | ⟨T, at_, rfl⟩
    · have HM := Lib.hid hM
      clear hH hM hg
      simp only [List.length_nil]
      go_wp2
      go_ret
      have hd := reach_done HM.out.here (fun x hx => (HM.out.sound x hx).1) (fun x z hx hz => by
        rcases HM.out.closed x z hx hz with h | h | ⟨_, h⟩
        · exact h
        · simp at h
        · simp at h)
      have hm : marksB n (rb L a) = marksB n S := marksB_congr fun x _ => by
        rw [Bool.eq_iff_iff, rb_iff, hd]
      refine ⟨_, rfl, by rw [hm]; exact HM.out.inn, HM.out.kept.mono (fun i hi h => by omega), fun b hb => ?_⟩
      simp [Value.ownBlock] at hb
      omega
    · rw [List.concat_eq_append] at hM hg ⊢
      have hl : (T ++ [at_]).length = T.length + 1 := by simp
      rw [hl] at hM hg ⊢
      have hM1 : RMemS L n a w wr w.heap.size (w.heap.size + 1) (.slice na n nc) (.slice (some ⟨ug, uo, none⟩) n uc) (.slice (some ⟨w.heap.size + 1, 0, none⟩) n n) (.slice ta (T.length + 1) tc) S (T ++ [at_]) at_ [] :=
        ⟨hM.cell, hM.inn, hM.todo, hM.tb, hM.kept, hM.here, hM.sound, hM.sub, fun x z hx hz => by
          rcases hM.closed x z hx hz with h | h | ⟨_, h⟩
          · exact .inl h
          · exact .inr (.inl h)
          · simp at h, hM.cnt⟩
      have hto := hM.todo
      rw [hl] at hto
      obtain ⟨tb, to, tc', htv, p1, p2, tcl, _, _⟩ := hto.elt (by omega)
      simp only [Value.slice.injEq, true_and] at htv
      obtain ⟨rfl, rfl⟩ := htv
      have t0 : wr.cell? ⟨tb, to + T.length, none⟩ = some (.int .i64 (at_ : Int)) := tcl T.length _ (by rw [cellsOf_encN]; simp)
      have hpop := hM1.pop
      have hpl : T.length ≤ 9223372036854775806 := by unfold maxLen at p2; omega
      have hm2 : (T.length : Int) < (T.length : Int) + 1 := by omega
      have hm3 : (0 : Int) < (T.length : Int) + 1 := by omega
      have hsat := hM.sub at_ (by simp)
      have hatn := (hM.sound at_ hsat).2
      have hai2 : (at_ : Int) < (n : Int) := by omega
      obtain ⟨rv, hrv⟩ := HG.out.rowAt (i := at_) (by rw [HN.out]; exact hatn)
      have hY : nxt L at_ = L[at_]'(by rw [HN.out]; exact hatn) := nxt_get _
      rw [← hY] at hrv
      have hgr : ∀ wx : World, Kept (fun b => w.heap.size ≤ b) w wx → wx.cell? ⟨ug, uo + at_, none⟩ = some rv ∧ Own wx 3 1 rv (nxt L at_).length (cellsOf encN (nxt L at_)) := fun wx hk =>
        ⟨(hrv wx _ hk (fun b hb h => by have := HFL.out b hb; omega)).1 _ _ _ _ rfl, (hrv wx _ hk (fun b hb h => by have := HFL.out b hb; omega)).2⟩
      obtain ⟨ra, rc, rfl, q1, q2, q3⟩ := (hgr wr hM.kept).2.shape
      have r0 := (hgr wr hM.kept).1
      have c1 : wr.cell? ⟨w.heap.size, 1, none⟩ = some (.slice (some ⟨ug, uo, none⟩) n uc) := cell_of hM.cell rfl
      have HGR := Lib.hid hgr
      have HP : Hid (RMemS L n a w wr w.heap.size (w.heap.size + 1) (.slice na n nc) (.slice (some ⟨ug, uo, none⟩) n uc) (.slice (some ⟨w.heap.size + 1, 0, none⟩) n n) (.slice (some ⟨tb, to, none⟩) T.length tc) S T at_ ((nxt L at_).drop 0) ∧ 2 * um n S + T.length + 1 = gk) := Lib.hid ⟨by rw [List.drop_zero]; exact hpop, by omega⟩
      have HSA := Lib.hid hsat
      have HQ3 := Lib.hid q3
      have hq2 : (nxt L at_).length ≤ 9223372036854775807 := by unfold maxLen at q2; omega
      have HLE : ∀ z ∈ nxt L at_, z < n := fun z hz => HL.out at_ z hz
      have HLE := Lib.hid HLE
      obtain ⟨Y, hYe⟩ : ∃ Y, Y = nxt L at_ := ⟨_, rfl⟩
      have HYE := Lib.hid hYe
      rw [← hYe] at r0 HGR HP HQ3 hq2 HLE q1
      clear hH hM hM1 hto tcl hpop hsat hatn hrv hY hgr q3 hYe hg hl
      go_wp2_with fail
      clear t0 c1 r0 hm2 hm3 hpl p1 p2
      go_loopw [6, 39] (fun tv i wr => ∃ j : Nat, j ≤ Y.length ∧ i = .int .i64 j ∧ ∃ ta tc T S, tv = .slice ta (List.length T) tc ∧ Hid (RMemS L n a w wr w.heap.size (w.heap.size + 1) (.slice na n nc) (.slice (some ⟨ug, uo, none⟩) n uc) (.slice (some ⟨w.heap.size + 1, 0, none⟩) n n) tv S T at_ (Y.drop j) ∧ 2 * um n S + T.length + 1 ≤ gk ∧ S at_ = true)) (fun _ i _ => Y.length - (intOf i).toNat)
      case atStart => exact ⟨0, Nat.zero_le _, rfl, _, _, T, S, rfl, Lib.hid ⟨HP.out.1, Nat.le_of_eq HP.out.2, HSA.out⟩⟩
      case round =>
        clear HP HSA
        obtain ⟨j, hj, rfl, ta, tc, T, S, rfl, hH⟩ := hrel
        obtain ⟨hM, hg, hsa⟩ := hH.out
        by_cases hlt : j < Y.length
        · have hrow := (HGR.out wr hM.kept).2
          obtain ⟨yg, yo, yc, hyv, _, _, ycl, _, _⟩ := hrow.elt (by omega)
          simp only [Value.slice.injEq, true_and] at hyv
          obtain ⟨rfl, rfl⟩ := hyv
          have y0 : wr.cell? ⟨yg, yo + j, none⟩ = some (.int .i64 (Y[j] : Int)) := ycl j _ (by rw [cellsOf_encN]; simp [hlt])
          have hzn := HLE.out _ (List.getElem_mem hlt)
          have hdr : Y.drop j = Y[j] :: Y.drop (j + 1) := List.drop_eq_getElem_cons hlt
          have hzm : Y[j] ∈ nxt L at_ := by rw [← HYE.out]; exact List.getElem_mem hlt
          rw [hdr] at hM
          generalize Y[j] = z at y0 hzn hM hzm
          obtain ⟨g', off', cap', hv, _, _, mcl, mfz, _⟩ := hM.inn.elt (by omega)
          simp only [Value.slice.injEq, Option.some.injEq, Addr.mk.injEq, true_and, and_true] at hv
          obtain ⟨⟨rfl, rfl⟩, hv2⟩ := hv
          have m0 : wr.cell? ⟨w.heap.size + 1, z, none⟩ = some (.bool (S z)) := by
            have := mcl z _ (marksB_get S hzn)
            rwa [Nat.zero_add] at this
          have mf : wr.frozen? ⟨w.heap.size + 1, z, none⟩ = false := mfz _
          have hzi : (z : Int) < (n : Int) := by omega
          have HM := Lib.hid hM
          have HGK := Lib.hid hg
          have HSA := Lib.hid hsa
          have HZN := Lib.hid hzn
          have HZM := Lib.hid hzm
          clear hH hM hg hsa hrow ycl hdr mcl mfz hv2 hzm
          cases hS : S z with
          | true =>
            rw [hS] at m0
            have Q : Hid (RMemS L n a w wr w.heap.size (w.heap.size + 1) (.slice na n nc) (.slice (some ⟨ug, uo, none⟩) n uc) (.slice (some ⟨w.heap.size + 1, 0, none⟩) n n) (.slice ta T.length tc) S T at_ (Y.drop (j + 1)) ∧ 2 * um n S + T.length + 1 ≤ gk ∧ S at_ = true) := Lib.hid ⟨HM.out.skip hS, HGK.out, HSA.out⟩
            clear hS HM
            go_wp2
            go_roundw
            case rel => exact ⟨j + 1, by omega, by go_num, ta, tc, T, S, rfl, Q⟩
            case measure => simp [intOf]; omega
          | false =>
            rw [hS] at m0
            have hset := HM.out.inn.setAt (j := z) (by omega) (.bool true)
            rw [Nat.zero_add] at hset
            have HTD : Hid (Own (wr.setCell ⟨w.heap.size + 1, z, none⟩ (.bool true)) 3 1 (.slice ta T.length tc) T.length (cellsOf encN T)) := Lib.hid (HM.out.todo.setCell (p := ⟨w.heap.size + 1, z, none⟩) (fun hb => (HM.out.tb _ hb).2.2 rfl) _)
            have HT : Hid (Fits (T.length + 1) 8) := Lib.hid (fits_of (by have := HM.out.cnt; omega) (by decide))
            have HS := Lib.hid hS
            clear hset hS
            go_wp2_with (first
              | (at_builtin
                 refine wpList_append slInt (v := .slice ta T.length tc) (vx := .slice (some ⟨wr.heap.size, 0, none⟩) 1 1) (news := cellsOf encN [z]) (m := 1) rfl _ _ rfl rfl rfl (HTD.out.alloc _) (by have := Own.fresh (w := wr.setCell ⟨w.heap.size + 1, z, none⟩ (.bool true)) (e := 3) (sz := 1) (n := 1) (cs := #[.int .i64 (z : Int)]) (by rfl) (by decide); simpa [cellsOf_encN_one] using this.rd) (oneN _) HT.out ?_
                 intro v7 w7 ho7 hk7 hb7 _
                 obtain ⟨a7, c7, rfl, _, _, _⟩ := ho7.shape))
            have hps := HM.out.push (mo := 0) (mc := n) (tv2 := .slice a7 (T.length + 1) c7) (o := .cells #[.int .i64 (z : Int)] 3) (w2 := w7) (by omega) (by omega) HS.out HZN.out HSA.out HZM.out (by rw [Nat.zero_add]; exact hk7) ho7 (fun b hb => by
              rcases hb7 b hb with h | h
              · exact .inl h
              · simp at h
                exact .inr h)
            have hus := um_set HZN.out HS.out
            have Q : Hid (RMemS L n a w w7 w.heap.size (w.heap.size + 1) (.slice na n nc) (.slice (some ⟨ug, uo, none⟩) n uc) (.slice (some ⟨w.heap.size + 1, 0, none⟩) n n) (.slice a7 (T.length + 1) c7) (setB S z) (T ++ [z]) at_ (Y.drop (j + 1)) ∧ 2 * um n (setB S z) + (T ++ [z]).length + 1 ≤ gk ∧ setB S z at_ = true) :=
              Lib.hid ⟨hps, by have := HGK.out; simp only [List.length_append, List.length_singleton]; omega, setB_iff.2 (.inl HSA.out)⟩
            clear hps hus ho7 hk7 hb7
            go_roundw
            case rel => exact ⟨j + 1, by omega, by go_num, a7, c7, T ++ [z], setB S z, by simp, by simpa using Q⟩
            case measure => simp [intOf]; omega
        · obtain rfl : j = Y.length := by omega
          rw [List.drop_length] at hM
          have Q : Hid (RMemS L n a w wr w.heap.size (w.heap.size + 1) (.slice na n nc) (.slice (some ⟨ug, uo, none⟩) n uc) (.slice (some ⟨w.heap.size + 1, 0, none⟩) n n) (.slice ta T.length tc) S T 0 []) := Lib.hid
            ⟨hM.cell, hM.inn, hM.todo, hM.tb, hM.kept, hM.here, hM.sound, hM.sub, fun x z hx hz => by
              rcases hM.closed x z hx hz with h | h | ⟨_, h⟩
              · exact .inl h
              · exact .inr (.inl h)
              · simp at h, hM.cnt⟩
          have HGK := Lib.hid hg
          clear hH hM hg hsa hlt hj
          go_wp2
          go_roundg (2 * um n S + T.length)
          case measure => have := HGK.out; omega
          case rel => exact ⟨ta, tc, T, S, rfl, Lib.hid ⟨Q.out, rfl⟩⟩

end Go.Proofs.Ytncloielmfplpaa
