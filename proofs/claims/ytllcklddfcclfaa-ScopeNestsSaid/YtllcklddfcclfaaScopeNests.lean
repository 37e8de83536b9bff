/- The walk of ScopeNests. -/
import Derived.Test.YtllcklddfcclfaaArgsR
import Derived.Test.YtllcklddfcclfaaWakes4
import Derived.Test.YtllcklddfcclfaaScopeHII
import Derived.Test.YtllcklddfcclfaaScopeCII
import Derived.Test.YtllcklddfcclfaaScopeRes
import Derived.Test.YtllcklddfcclfaaFitsWide
import Derived.StillTailTactics
import Derived.IntWalk
namespace Go.Proofs.Ytllcklddfcclfaa
open Go.ChangeShapes Go.WideShapes Go.ChangeAt Go.RowKit
set_option linter.unusedVariables false
set_option linter.unusedSimpArgs false

/-- A scope whose frames hold fs, in memory that is new since B. -/
def Has (w : World) (B : Nat) (p : Value) (fs : List (List (Int × Int))) : Prop :=
  ∃ F fr, ScopeII w p F fr ∧ fr.map Fr.items = fs ∧ ∀ b, F b → B ≤ b

theorem Has.kept {w w' : World} {B : Nat} {p : Value} {fs : List (List (Int × Int))} (h : Has w B p fs) (hk : Below w.heap.size w w') : Has w' B p fs := by
  obtain ⟨F, fr, h1, h2, h3⟩ := h
  exact ⟨F, fr, h1.frame (Kept.of_below hk) (fun b hb h => by have := h1.lt hb; omega), h2, h3⟩

theorem has_bind {w : World} {B : Nat} {p : Value} {fs : List (List (Int × Int))} {f : List (Int × Int)} (h : Has w B p (fs ++ [f])) (hB : B ≤ w.heap.size) (k x : Int) (hf : Fits (f.length + 1) 8) :
    Calls Try.prog 10 #[p, .int .i64 k, .int .i64 x] w fun e w' =>
      ((k ∈ f.map (·.1) ∧ e = .returned (.int .i64 5) ∧ Has w' B p (fs ++ [f])) ∨ (k ∉ f.map (·.1) ∧ e = .returned (.int .i64 0) ∧ Has w' B p (fs ++ [f ++ [(k, x)]]))) ∧ Kept (fun b => B ≤ b) w w' := by
  obtain ⟨F, fr, h1, h2, h3⟩ := h
  obtain ⟨fr', ff, rfl, hfs, hff⟩ : ∃ fr' ff, fr = fr' ++ [ff] ∧ fr'.map Fr.items = fs ∧ ff.items = f := by
    obtain ⟨l1, l2, e1, e2, e3⟩ := List.map_eq_append_iff.1 h2
    obtain ⟨ff, hl2, e5⟩ := List.map_eq_singleton_iff.1 e3
    exact ⟨l1, ff, by rw [e1, hl2], e2, e5⟩
  refine (scopeBindII h1 k x (by rw [hff]; exact hf)).mono ?_
  rintro e w' (⟨hm, rfl, hk⟩ | ⟨hm, rfl, F', kv2, h4, hk, h5⟩)
  · refine ⟨.inl ⟨by rw [← hff]; exact hm, rfl, F, _, h1.frame hk (fun _ _ => id), h2, h3⟩, hk.mono (fun _ _ h => h.elim)⟩
  · refine ⟨.inr ⟨by rw [← hff]; exact hm, rfl, F', _, h4, by simp [hfs, hff], fun b hb => (h5 b hb).elim (h3 b) (fun h => Nat.le_trans hB h)⟩, hk.mono (fun b _ h => h3 b h)⟩

theorem has_find {w : World} {B : Nat} {p : Value} {fs : List (List (Int × Int))} (h : Has w B p fs) (h0 : 0 < fs.length) (k : Int) :
    Calls Try.prog 14 #[p, .int .i64 k] w fun e w' => ∃ r : Int × Int × Int, e = .returned (.tuple #[.int .i64 r.1, .int .i64 r.2.1, .int .i64 r.2.2]) ∧ FindRes fs k r ∧ Below w.heap.size w w' ∧ Has w' B p fs := by
  have h' := h
  obtain ⟨F, fr, h1, h2, h3⟩ := h
  refine (scopeFindRes h1 (by rw [← h2] at h0; simpa using h0) k).mono ?_
  rintro e w' ⟨r, rfl, hr, hb⟩
  exact ⟨r, rfl, by rw [← h2]; exact hr, hb, h'.kept hb⟩

theorem has_open {w : World} {B : Nat} {p : Value} {fs : List (List (Int × Int))} (h : Has w B p fs) (hB : B ≤ w.heap.size) (hf : Fits (fs.length + 1) 32) :
    Calls Try.prog 16 #[p] w fun e w' => (∃ v, e = .returned v) ∧ Has w' B p (fs ++ [[]]) ∧ Kept (fun b => B ≤ b) w w' := by
  obtain ⟨F, fr, h1, h2, h3⟩ := h
  refine (scopeOpenII h1 (by rw [← h2, List.length_map] at hf; exact hf)).mono ?_
  rintro e w' ⟨hv, F', h4, hk, h5⟩
  exact ⟨hv, ⟨F', _, h4, by simp [h2], fun b hb => (h5 b hb).elim (h3 b) (fun h => Nat.le_trans hB h)⟩, hk.mono (fun b _ h => h3 b h)⟩

theorem has_close {w : World} {B : Nat} {p : Value} {fs : List (List (Int × Int))} {f : List (Int × Int)} (h : Has w B p (fs ++ [f])) (h0 : 0 < fs.length) :
    Calls Try.prog 18 #[p] w fun e w' => e = .returned (.int .i64 0) ∧ Has w' B p fs ∧ Kept (fun b => B ≤ b) w w' := by
  obtain ⟨F, fr, h1, h2, h3⟩ := h
  obtain ⟨fr', ff, rfl, hfs, hff⟩ : ∃ fr' ff, fr = fr' ++ [ff] ∧ fr'.map Fr.items = fs ∧ ff.items = f := by
    obtain ⟨l1, l2, e1, e2, e3⟩ := List.map_eq_append_iff.1 h2
    obtain ⟨ff, hl2, e5⟩ := List.map_eq_singleton_iff.1 e3
    exact ⟨l1, ff, by rw [e1, hl2], e2, e5⟩
  refine (scopeCloseII h1 (by rw [← hfs] at h0; simpa using h0)).mono ?_
  rintro e w' ⟨rfl, F', h4, hk, h5⟩
  exact ⟨rfl, ⟨F', _, h4, hfs, fun b hb => h3 b (h5 b hb)⟩, hk.mono (fun b _ h => h3 b h)⟩

theorem has_close1 {w : World} {B : Nat} {p : Value} {f : List (Int × Int)} (h : Has w B p [f]) :
    Calls Try.prog 18 #[p] w fun e w' => e = .returned (.int .i64 4) ∧ w = w' := by
  obtain ⟨F, fr, h1, h2, h3⟩ := h
  obtain ⟨ff, rfl, _⟩ := List.map_eq_singleton_iff.1 h2
  exact scopeClose1II h1

theorem has_level {w : World} {B : Nat} {p : Value} {fs : List (List (Int × Int))} (h : Has w B p fs) (h0 : 0 < fs.length) :
    Calls Try.prog 21 #[p] w fun e w' => e = .returned (.int .i64 ((fs.length - 1 : Nat) : Int)) ∧ w = w' := by
  obtain ⟨F, fr, h1, h2, h3⟩ := h
  have := scopeLevelII h1 (by rw [← h2] at h0; simpa using h0)
  rw [← h2, List.length_map]
  exact this

theorem has_here {w : World} {B : Nat} {p : Value} {fs : List (List (Int × Int))} {f : List (Int × Int)} (h : Has w B p (fs ++ [f])) (hf : Fits f.length 8) :
    Calls Try.prog 11 #[p] w fun e w' => ∃ v, e = .returned v ∧ Fresh w w' 3 1 v f.length (cellsOf encI (f.map (·.1))) ∧ Has w' B p (fs ++ [f]) := by
  have h' := h
  obtain ⟨F, fr, h1, h2, h3⟩ := h
  obtain ⟨fr', ff, rfl, hfs, hff⟩ : ∃ fr' ff, fr = fr' ++ [ff] ∧ fr'.map Fr.items = fs ∧ ff.items = f := by
    obtain ⟨l1, l2, e1, e2, e3⟩ := List.map_eq_append_iff.1 h2
    obtain ⟨ff, hl2, e5⟩ := List.map_eq_singleton_iff.1 e3
    exact ⟨l1, ff, by rw [e1, hl2], e2, e5⟩
  refine (scopeHereII h1 (by rw [hff]; exact hf)).mono ?_
  rintro e w' ⟨v, rfl, hfr⟩
  refine ⟨v, rfl, by rw [← hff]; exact hfr, F, _, h1.frame hfr.2.1 (fun _ _ => id), h2, h3⟩

set_option maxRecDepth 100000 in
set_option maxHeartbeats 2000000 in
theorem scopeNests_walk (vo vi : Value) (xs ys : List (List Int)) (k : Int) (w : World) (hx : RdRows w 3 vo xs) (hy : RdRows w 3 vi ys) (hrx : xs.length * 24 ≤ 140737488351232) (hry : ys.length * 24 ≤ 140737488351232) :
    Calls Try.prog 6 #[vo, vi, .int .i64 k] w fun e w' => e = .returned (.bool true) ∧ Below w.heap.size w w' := by
  obtain ⟨a, c, rfl, ka1, ka2, ka3⟩ := hx.shape
  obtain ⟨ai, ci, rfl, kb1, kb2, kb3⟩ := hy.shape
  have HX := Lib.hid hx
  have HY := Lib.hid hy
  have KA := Lib.hid ka3
  have KB := Lib.hid kb3
  clear hx hy ka3 kb3
  unfold maxLen at ka2 kb2
  go_enter Try.func6, Try.ntmps6
  go_wp2_with fail
  refine (wakes_any w).mono ?_
  rintro e w1 ⟨rfl, hb1⟩
  go_wp2_with fail
  refine (scopeNewII w1).mono ?_
  rintro e w2 ⟨b, mb, F0, rfl, hI0, hk0, hF0⟩
  have HI0 := Lib.hid (show Has w2 w.heap.size (.pointer (some ⟨b, 0, none⟩)) ([] ++ [[]]) from ⟨F0, _, hI0, rfl, fun b h => Nat.le_trans hb1.size (hF0 b h)⟩)
  have hb2 := below_step hb1 (Nat.le_refl _) hk0 (fun _ h => h.elim)
  clear hI0 hF0
  go_wp2_with fail
  go_loopw [8] (fun i wr => ∃ j : Nat, j ≤ xs.length ∧ i = .int .i64 j ∧ Hid (Below w.heap.size w wr ∧ ∃ f : List (Int × Int), f.length ≤ j ∧ Has wr w.heap.size (.pointer (some ⟨b, 0, none⟩)) ([] ++ [f]))) (fun i _ => xs.length - (intOf i).toNat)
  case atStart => exact ⟨0, Nat.zero_le _, rfl, Lib.hid ⟨hb2, [], Nat.le_refl _, HI0.out⟩⟩
  case round =>
    obtain ⟨j, hj, rfl, hH⟩ := hrel
    obtain ⟨hb, f, hfl, hI⟩ := hH.out
    by_cases hlt : j < xs.length
    · cases a with
      | none => exact absurd (KA.out rfl).1 (by omega)
      | some ad =>
        have cx := (HX.out.later hb).cell' hlt (j := 1) (by omega) (by omega)
        have cy := (HX.out.later hb).cell' hlt (j := 2) (by omega) (by omega)
        generalize xs[j].getD 1 0 = x at cx
        generalize xs[j].getD 2 0 = y at cy
        have HB := Lib.hid hb
        have HI := Lib.hid hI
        have hw2 : (j : Int) < (xs.length : Int) := by omega
        have hw3 : (0 : Int) ≤ (j : Int) := by omega
        clear hb hI hH
        go_wp2_with fail
        go_still_tail 11, (by kernel_rfl)
        change wpList _ _ _ _ _ wr.drew
        have HI2 : Hid (Has wr.drew w.heap.size (.pointer (some ⟨b, 0, none⟩)) ([] ++ [f])) := Lib.hid (HI.out.kept ((Below.refl _ wr).drew))
        have HB2 : Hid (Below w.heap.size w wr.drew) := Lib.hid (HB.out.drew)
        clear cx cy HI HB hw2 hw3
        generalize wr.drew = wd at HI2 HB2 ⊢
        have HBI : Hid (Calls Try.prog 10 #[.pointer (some ⟨b, 0, none⟩), .int .i64 x, .int .i64 y] wd fun e w' => (∃ v, e = .returned v) ∧ (∃ f' : List (Int × Int), f'.length ≤ j + 1 ∧ Has w' w.heap.size (.pointer (some ⟨b, 0, none⟩)) ([] ++ [f'])) ∧ Kept (fun b => w.heap.size ≤ b) wd w') :=
          Lib.hid ((has_bind HI2.out HB2.out.size x y (fits_of (by omega) (by decide))).mono (fun e w' h => by
            obtain ⟨⟨_, rfl, h1⟩ | ⟨_, rfl, h1⟩, hk⟩ := h
            · exact ⟨⟨_, rfl⟩, ⟨f, by omega, h1⟩, hk⟩
            · exact ⟨⟨_, rfl⟩, ⟨_, by simp; omega, h1⟩, hk⟩))
        go_wp2_with (go_at_call 10; refine HBI.out.mono ?_; rintro e w4 ⟨⟨v4, rfl⟩, hh4, hk4⟩)
        have Q := Lib.hid (show Below w.heap.size w w4 ∧ ∃ f : List (Int × Int), f.length ≤ j + 1 ∧ Has w4 w.heap.size (.pointer (some ⟨b, 0, none⟩)) ([] ++ [f]) from ⟨below_step HB2.out (Nat.le_refl _) hk4 (fun _ h => h), hh4⟩)
        clear hh4 hk4
        go_roundw
        case rel => exact ⟨j + 1, by omega, by go_num, Q⟩
        case measure => simp [intOf]; omega
    · obtain rfl : j = xs.length := by omega
      have hflen : f.length ≤ 5864062014634 := by omega
      have HB := Lib.hid hb
      have HI := Lib.hid hI
      clear hb hI hH
      go_wp2_with fail
      refine (has_find HI.out (by simp) k).mono ?_
      rintro e w4 ⟨⟨r0, r1, r2⟩, rfl, hr, hb4, hI4⟩
      have HR := Lib.hid hr
      have HI4 := Lib.hid hI4
      have HB4 := Lib.hid (HB.out.trans (hb4.mono HB.out.size))
      dsimp only
      clear hr hI4 hb4
      go_wp2_with fail
      refine (has_open HI4.out HB4.out.size (fits_of (by simp) (by decide))).mono ?_
      rintro e w5 ⟨⟨v5, rfl⟩, hI5, hk5⟩
      have HI5 := Lib.hid hI5
      have HB5 := Lib.hid (below_step HB4.out (Nat.le_refl _) hk5 (fun _ h => h))
      clear hI5 hk5
      go_wp2_with fail
      refine (has_find HI5.out (by simp) k).mono ?_
      rintro e w6 ⟨r', rfl, hr', hb6, hI6⟩
      have HND : Hid (∀ f' ∈ ([] ++ [f]) ++ [([] : List (Int × Int))], (f'.map (·.1)).Nodup) := Lib.hid (by
        obtain ⟨F, fr, h1, h2, h3⟩ := HI5.out
        rw [← h2]
        exact h1.nodup)
      obtain rfl : r' = (r0, r1, r2) := hr'.unique HND.out HR.out.opened
      have HI6 := Lib.hid hI6
      have HB6 := Lib.hid (HB5.out.trans (hb6.mono HB5.out.size))
      dsimp only
      clear hr' hI6 hb6
      go_wp2_with fail
      refine (has_here HI6.out (fits_of (by simp) (by decide))).mono ?_
      rintro e w7 ⟨v7, rfl, hf7, hI7⟩
      obtain ⟨a7, c7, rfl, _, _, _⟩ := hf7.1.shape
      have HI7 := Lib.hid hI7
      have HB7 := Lib.hid (below_step HB6.out (Nat.le_refl _) hf7.2.1 (fun _ h => h.elim))
      clear hf7 hI7
      simp only [List.length_nil]
      go_wp2_with fail
      go_loopw [15, 16] (fun lv i wx => ∃ j lvn : Nat, j ≤ ys.length ∧ i = .int .i64 j ∧ lv = .int .i64 lvn ∧ 1 ≤ lvn ∧ lvn ≤ j + 1 ∧ Hid (Below w.heap.size w wx ∧ ∃ (r : List (List (Int × Int))) (g : List (Int × Int)), r.length + 1 = lvn ∧ (∀ f' ∈ r ++ [g], f'.length ≤ j) ∧ Has wx w.heap.size (.pointer (some ⟨b, 0, none⟩)) (([f] ++ r) ++ [g]))) (fun _ i _ => ys.length - (intOf i).toNat)
      case atStart => exact ⟨0, 1, Nat.zero_le _, rfl, rfl, Nat.le_refl _, Nat.le_refl _, Lib.hid ⟨HB7.out, [], [], rfl, by simp, HI7.out⟩⟩
      case round =>
        obtain ⟨j, lvn, hj, rfl, rfl, hl1, hl2, hH⟩ := hrel
        obtain ⟨hb, r, g, hrl, hlen, hI⟩ := hH.out
        by_cases hlt : j < ys.length
        · cases ai with
          | none => exact absurd (KB.out rfl).1 (by omega)
          | some ad =>
            have cz := (HY.out.later hb).cell hlt (j := 0) (by omega)
            simp only [Nat.add_zero] at cz
            generalize hz : ys[j].getD 0 0 = z at cz
            have HB := Lib.hid hb
            have HI := Lib.hid hI
            have HLEN := Lib.hid hlen
            have HRL := Lib.hid hrl
            clear hb hI hlen hrl hH hz
            by_cases h1 : z = 1
            · subst h1
              go_wp2_with fail
              refine (has_open HI.out HB.out.size (fits_frames_le hry (by have := HRL.out; simp; omega))).mono ?_
              rintro e wo ⟨⟨vo, rfl⟩, hIo, hko⟩
              have hBo := below_step HB.out (Nat.le_refl _) hko (fun _ h => h)
              have hIo' : Has wo w.heap.size (.pointer (some ⟨b, 0, none⟩)) (([f] ++ (r ++ [g])) ++ [[]]) := by simpa using hIo
              have HIO := Lib.hid hIo'
              have Q := Lib.hid (show Below w.heap.size w wo ∧ ∃ (r : List (List (Int × Int))) (g : List (Int × Int)), r.length + 1 = lvn + 1 ∧ (∀ f' ∈ r ++ [g], f'.length ≤ j + 1) ∧ Has wo w.heap.size (.pointer (some ⟨b, 0, none⟩)) (([f] ++ r) ++ [g]) from
                ⟨hBo, r ++ [g], [], by have := HRL.out; simp; omega, fun f' hf' => by
                  rcases List.mem_append.1 hf' with h | h
                  · have := HLEN.out f' h; omega
                  · simp at h; subst h; simp, hIo'⟩)
              have hlv : ((([f] ++ (r ++ [g])) ++ [([] : List (Int × Int))]).length - 1 : Nat) = lvn + 1 := by have := HRL.out; simp; omega
              have HLV := Lib.hid hlv
              clear hIo hIo' hko hBo hlv
              go_wp2_with fail
              refine (has_level HIO.out (by simp)).mono ?_
              rintro e wl ⟨rfl, rfl⟩
              rw [HLV.out]
              have hq : (((lvn + 1 : Nat) : Int) != (lvn : Int) + 1) = false := by simp
              go_wp2
              go_roundw
              case rel => exact ⟨j + 1, lvn + 1, by omega, by go_num, by go_num, by omega, by omega, Q⟩
              case measure => simp [intOf]; omega
            · have b1 : (z == 1) = false := by simp [h1]
              by_cases h2 : z = 2
              · subst h2
                clear h1
                by_cases hgt : 1 < lvn
                · go_wp2_with fail
                  refine (has_close HI.out (by simp)).mono ?_
                  rintro e wo ⟨rfl, hIo, hko⟩
                  obtain ⟨r', g', hr'⟩ : ∃ r' g', r = r' ++ [g'] := by
                    have hne : r ≠ [] := by intro e; have := HRL.out; rw [e] at this; simp at this; omega
                    exact ⟨r.dropLast, r.getLast hne, (List.dropLast_concat_getLast hne).symm⟩
                  have hIo' : Has wo w.heap.size (.pointer (some ⟨b, 0, none⟩)) (([f] ++ r') ++ [g']) := by rw [hr'] at hIo; simpa using hIo
                  have hBo := below_step HB.out (Nat.le_refl _) hko (fun _ h => h)
                  have HIO := Lib.hid hIo'
                  have hr2 : r'.length + 2 = lvn := by have := HRL.out; rw [hr'] at this; simp at this; omega
                  have Q := Lib.hid (show Below w.heap.size w wo ∧ ∃ (r : List (List (Int × Int))) (g : List (Int × Int)), r.length + 1 = lvn - 1 ∧ (∀ f' ∈ r ++ [g], f'.length ≤ j + 1) ∧ Has wo w.heap.size (.pointer (some ⟨b, 0, none⟩)) (([f] ++ r) ++ [g]) from
                    ⟨hBo, r', g', by omega, fun f' hf' => by
                      have := HLEN.out f' (by rw [hr']; exact List.mem_append_left _ hf')
                      omega, hIo'⟩)
                  have hlv : ((([f] ++ r') ++ [g']).length - 1 : Nat) = lvn - 1 := by simp; omega
                  have HLV := Lib.hid hlv
                  obtain ⟨m, hm⟩ : ∃ m, lvn = m + 1 := ⟨lvn - 1, by omega⟩
                  subst hm
                  clear hIo hIo' hko hBo hlv hr' hr2
                  simp only [Nat.add_sub_cancel] at Q HLV
                  go_wp2_with fail
                  refine (has_level HIO.out (by simp)).mono ?_
                  rintro e wl ⟨rfl, rfl⟩
                  rw [HLV.out]
                  go_wp2
                  go_roundw
                  case rel => exact ⟨j + 1, m, by omega, by go_num, by go_num, by omega, by omega, Q⟩
                  case measure => simp [intOf]; omega
                · have hl1' : lvn = 1 := by omega
                  subst hl1'
                  have Q := Lib.hid (show Below w.heap.size w wr ∧ ∃ (r : List (List (Int × Int))) (g : List (Int × Int)), r.length + 1 = 1 ∧ (∀ f' ∈ r ++ [g], f'.length ≤ j + 1) ∧ Has wr w.heap.size (.pointer (some ⟨b, 0, none⟩)) (([f] ++ r) ++ [g]) from
                    ⟨HB.out, r, g, HRL.out, fun f' hf' => by have := HLEN.out f' hf'; omega, HI.out⟩)
                  have hlv : ((([f] ++ r) ++ [g]).length - 1 : Nat) = 1 := by have := HRL.out; simp only [List.length_append, List.length_cons, List.length_nil]; omega
                  have HLV := Lib.hid hlv
                  clear hlv hgt
                  go_wp2_with fail
                  refine (has_level HI.out (by simp)).mono ?_
                  rintro e wl ⟨rfl, rfl⟩
                  rw [HLV.out]
                  go_wp2
                  go_roundw
                  case rel => exact ⟨j + 1, 1, by omega, by go_num, by go_num, by omega, by omega, Q⟩
                  case measure => simp [intOf]; omega
              · have b2 : (z == 2) = false := by simp [h2]
                have cx := (HY.out.later HB.out).cell' hlt (j := 1) (by omega) (by omega)
                have cy := (HY.out.later HB.out).cell' hlt (j := 2) (by omega) (by omega)
                generalize hxe : ys[j].getD 1 0 = x at cx
                generalize hye : ys[j].getD 2 0 = y at cy
                have HXE := Lib.hid hxe
                have HYE := Lib.hid hye
                have hw2 : (j : Int) < (ys.length : Int) := by omega
                have hw3 : (0 : Int) ≤ (j : Int) := by omega
                clear h1 h2 hxe hye
                go_wp2_with fail
                go_still_tail 11, (by kernel_rfl)
                change wpList _ _ _ _ _ wr.drew
                have HI2 : Hid (Has wr.drew w.heap.size (.pointer (some ⟨b, 0, none⟩)) (([f] ++ r) ++ [g])) := Lib.hid (HI.out.kept ((Below.refl _ wr).drew))
                have HB2 : Hid (Below w.heap.size w wr.drew) := Lib.hid (HB.out.drew)
                clear cx cy HI HB
                generalize wr.drew = wd at HI2 HB2 ⊢
                have HBI : Hid (Calls Try.prog 10 #[.pointer (some ⟨b, 0, none⟩), .int .i64 x, .int .i64 y] wd fun e w' => ∃ (o : Int) (g' : List (Int × Int)), e = .returned (.int .i64 o) ∧ (o = 0 ∧ g' = g ++ [(x, y)] ∨ o = 5 ∧ g' = g ∧ x ∈ g.map (·.1)) ∧ Has w' w.heap.size (.pointer (some ⟨b, 0, none⟩)) (([f] ++ r) ++ [g']) ∧ Kept (fun b => w.heap.size ≤ b) wd w') :=
                  Lib.hid ((has_bind HI2.out HB2.out.size x y (fits_of (by have := HLEN.out g (by simp); omega) (by decide))).mono (fun e w' h => by
                    obtain ⟨⟨h0, rfl, h1⟩ | ⟨h0, rfl, h1⟩, hk⟩ := h
                    · exact ⟨5, g, rfl, .inr ⟨rfl, rfl, h0⟩, h1, hk⟩
                    · exact ⟨0, _, rfl, .inl ⟨rfl, rfl⟩, h1, hk⟩))
                go_wp2_with fail
                refine HBI.out.mono ?_
                rintro e w4 ⟨o, g', rfl, ho, hI4, hk4⟩
                have HB4 := Lib.hid (below_step HB2.out (Nat.le_refl _) hk4 (fun _ h => h))
                have HI4 := Lib.hid hI4
                have HO := Lib.hid ho
                have cx := (HY.out.later HB4.out).cell' hlt (j := 1) (by omega) (by omega)
                rw [HXE.out] at cx
                have hgl : g'.length ≤ j + 1 := by
                  have := HLEN.out g (by simp)
                  rcases HO.out with ⟨_, rfl⟩ | ⟨_, rfl, _⟩
                  · simp; omega
                  · omega
                have HGL := Lib.hid hgl
                clear hI4 hk4 ho HBI HI2 HB2 hgl
                go_wp2_with fail
                refine (has_find HI4.out (by simp) x).mono ?_
                rintro e w5 ⟨r3, rfl, hr3, hb5, hI5⟩
                have hmem : x ∈ g'.map (·.1) := by
                  rcases HO.out with ⟨_, rfl⟩ | ⟨_, rfl, h⟩
                  · simp
                  · exact h
                obtain ⟨x', rfl, hm'⟩ := hr3.last hmem
                have hlen3 : ([f] ++ r).length = lvn := by have := HRL.out; simp; omega
                rw [hlen3]
                have HM' := Lib.hid hm'
                have HI5 := Lib.hid hI5
                have HB5 := Lib.hid (HB4.out.trans (hb5.mono HB4.out.size))
                have cy5 := (HY.out.later HB5.out).cell' hlt (j := 2) (by omega) (by omega)
                rw [HYE.out] at cy5
                have hov : (o = 0 ∧ x' = y) ∨ o = 5 := by
                  rcases HO.out with ⟨rfl, hg'⟩ | ⟨rfl, _, _⟩
                  · refine .inl ⟨rfl, ?_⟩
                    have hnd : (g'.map (·.1)).Nodup := by
                      obtain ⟨F', fr', q1, q2, q3⟩ := HI5.out
                      have := q1.nodup g'
                      rw [q2] at this
                      exact this (by simp)
                    exact item_unique hnd HM'.out (by rw [hg']; simp)
                  · exact .inr rfl
                have HOV := Lib.hid hov
                have Q := Lib.hid (show Below w.heap.size w w5 ∧ ∃ (r : List (List (Int × Int))) (g : List (Int × Int)), r.length + 1 = lvn ∧ (∀ f' ∈ r ++ [g], f'.length ≤ j + 1) ∧ Has w5 w.heap.size (.pointer (some ⟨b, 0, none⟩)) (([f] ++ r) ++ [g]) from
                  ⟨HB5.out, r, g', HRL.out, fun f' hf' => by
                    rcases List.mem_append.1 hf' with h | h
                    · have := HLEN.out f' (List.mem_append_left _ h); omega
                    · simp only [List.mem_singleton] at h; subst h; exact HGL.out, HI5.out⟩)
                have hlv : ((([f] ++ r) ++ [g']).length - 1 : Nat) = lvn := by have := HRL.out; simp only [List.length_append, List.length_cons, List.length_nil]; omega
                have HLV := Lib.hid hlv
                dsimp only
                clear hr3 hb5 hI5 hmem hm' hlen3 cx hov hlv
                rcases HOV.out with ⟨ho0, hxy⟩ | ho5
                · subst ho0
                  subst hxy
                  go_wp2_with fail
                  refine (has_level HI5.out (by simp)).mono ?_
                  rintro e wl ⟨rfl, rfl⟩
                  rw [HLV.out]
                  go_wp2
                  go_roundw
                  case rel => exact ⟨j + 1, lvn, by omega, by go_num, rfl, by omega, by omega, Q⟩
                  case measure => simp [intOf]; omega
                · subst ho5
                  go_wp2_with fail
                  refine (has_level HI5.out (by simp)).mono ?_
                  rintro e wl ⟨rfl, rfl⟩
                  rw [HLV.out]
                  go_wp2
                  go_roundw
                  case rel => exact ⟨j + 1, lvn, by omega, by go_num, rfl, by omega, by omega, Q⟩
                  case measure => simp [intOf]; omega
        · have hj' : j = ys.length := by omega
          subst hj'
          have Q0 := Lib.hid (show Below w.heap.size w wr ∧ ∃ r' : List (List (Int × Int)), r'.length = lvn ∧ Has wr w.heap.size (.pointer (some ⟨b, 0, none⟩)) ([f] ++ r') from ⟨hb, r ++ [g], by rw [List.length_append]; exact hrl, by simpa using hI⟩)
          clear hb hI hH hlen hrl
          go_wp2_with fail
          go_loopw [15] (fun lv wx => ∃ n : Nat, lv = .int .i64 n ∧ n ≤ lvn ∧ Hid (Below w.heap.size w wx ∧ ∃ r' : List (List (Int × Int)), r'.length = n ∧ Has wx w.heap.size (.pointer (some ⟨b, 0, none⟩)) ([f] ++ r'))) (fun lv _ => (intOf lv).toNat)
          case atStart => exact ⟨lvn, rfl, Nat.le_refl _, Q0⟩
          case round =>
            obtain ⟨n, rfl, hn, hH⟩ := hrel
            obtain ⟨hb, r', hr', hI⟩ := hH.out
            by_cases hpos : 0 < n
            · obtain ⟨r2, g2, rfl⟩ : ∃ r2 g2, r' = r2 ++ [g2] := by
                have hne : r' ≠ [] := by intro e; rw [e] at hr'; have : 0 = n := hr'; omega
                exact ⟨r'.dropLast, r'.getLast hne, (List.dropLast_concat_getLast hne).symm⟩
              have hI' : Has wr w.heap.size (.pointer (some ⟨b, 0, none⟩)) (([f] ++ r2) ++ [g2]) := by simpa using hI
              have hr2 : r2.length = n - 1 := by simp at hr'; omega
              have HB := Lib.hid hb
              have HI := Lib.hid hI'
              have HR2 := Lib.hid hr2
              obtain ⟨m, hm⟩ : ∃ m, n = m + 1 := ⟨n - 1, by omega⟩
              subst hm
              clear hb hI hI' hH hr' hr2
              simp only [Nat.add_sub_cancel] at HR2
              go_wp2_with fail
              refine (has_close HI.out (by simp)).mono ?_
              rintro e wo ⟨rfl, hIo, hko⟩
              have Q := Lib.hid (show Below w.heap.size w wo ∧ ∃ r' : List (List (Int × Int)), r'.length = m ∧ Has wo w.heap.size (.pointer (some ⟨b, 0, none⟩)) ([f] ++ r') from ⟨below_step HB.out (Nat.le_refl _) hko (fun _ h => h), r2, HR2.out, hIo⟩)
              clear hIo hko
              go_wp2
              go_roundw
              case rel => exact ⟨m, by go_num, by omega, Q⟩
              case measure => simp [intOf]
            · obtain rfl : n = 0 := by omega
              obtain rfl : r' = [] := List.eq_nil_of_length_eq_zero hr'
              have HB := Lib.hid hb
              have HI := Lib.hid (show Has wr w.heap.size (.pointer (some ⟨b, 0, none⟩)) ([] ++ [f]) from hI)
              clear hb hI hH hr' hpos
              go_wp2_with fail
              refine (has_find HI.out (by simp) k).mono ?_
              rintro e w8 ⟨r8, rfl, hr8, hb8, hI8⟩
              have HND8 : Hid (∀ f' ∈ ([] ++ [f] : List (List (Int × Int))), (f'.map (·.1)).Nodup) := Lib.hid (by
                obtain ⟨F, fr, h1, h2, _⟩ := hI8
                rw [← h2]
                exact h1.nodup)
              obtain rfl : r8 = (r0, r1, r2) := hr8.unique HND8.out HR.out
              have HI8 := Lib.hid (show Has w8 w.heap.size (.pointer (some ⟨b, 0, none⟩)) [f] from hI8)
              have HB8 := Lib.hid (HB.out.trans (hb8.mono HB.out.size))
              dsimp only
              clear hr8 hI8 hb8
              go_wp2_with fail
              refine (has_close1 HI8.out).mono ?_
              rintro e w9 ⟨rfl, rfl⟩
              go_wp2_with fail
              refine (has_level HI8.out (by simp)).mono ?_
              rintro e w9 ⟨rfl, rfl⟩
              simp only [List.length_cons, List.length_nil]
              go_wp2
              go_ret
              exact ⟨rfl, HB8.out⟩

theorem getElem_three {f0 f1 f2 : Field} {j : Nat} {f : Field} (h : #[f0, f1, f2][j]? = some f) : (j = 0 ∧ f = f0) ∨ (j = 1 ∧ f = f1) ∨ (j = 2 ∧ f = f2) := by
  match j, h with
  | 0, h => exact .inl ⟨rfl, by simpa using h.symm⟩
  | 1, h => exact .inr (.inl ⟨rfl, by simpa using h.symm⟩)
  | 2, h => exact .inr (.inr ⟨rfl, by simpa using h.symm⟩)
  | n + 3, h => simp at h

theorem opFields4 : ∃ fs, Try.prog.underlying 41 = some (.struct fs) ∧ fs.size = 3 ∧ IntFields Try.prog fs := by
  refine ⟨_, Try.underlying41, rfl, ?_⟩
  intro j f h
  rcases getElem_three h with ⟨rfl, rfl⟩ | ⟨rfl, rfl⟩ | ⟨rfl, rfl⟩
  · exact ⟨rfl, Try.underlying3, by kernel_rfl⟩
  · exact ⟨rfl, Try.underlying3, by kernel_rfl⟩
  · exact ⟨rfl, Try.underlying3, by kernel_rfl⟩

set_option maxRecDepth 100000 in
theorem scopeNests_calls : LawCalls Try.prog 6 Try.f6 := by
  intro H enc W args ds ps hval hA hsz
  rw [Try.params6] at hA hval hsz
  obtain ⟨v0, v1, v2, d0, d1, d2, p0, p1, p2, rfl, rfl, _, h0, h1, h2⟩ := trodAll_three hA
  obtain ⟨base0, hok0⟩ := hval 0 _ v0 rfl rfl
  obtain ⟨base1, hok1⟩ := hval 1 _ v1 rfl rfl
  obtain ⟨fs, hu, hs, hfs⟩ := opFields4
  obtain ⟨xs, hx, _, _, hr⟩ := open_rows_arg Try.underlying35 hu (by rw [hs]; kernel_rfl) hfs hok0 h0
  obtain ⟨ys, hy, _, _, hr'⟩ := open_rows_arg Try.underlying35 hu (by rw [hs]; kernel_rfl) hfs hok1 h1
  rw [hs] at hx hy
  have hb : Try.prog.bytesOf 41 = 24 := by kernel_rfl
  have e0 := hr hsz (j := 0) rfl rfl
  have e1 := hr' hsz (j := 1) rfl rfl
  rw [hb] at e0 e1
  obtain ⟨base2, hok2⟩ := hval 2 _ v2 rfl rfl
  obtain ⟨k, rfl, _, _, _⟩ := open_int Try.underlying3 hok2 h2
  exact scopeNests_walk v0 v1 xs ys k W hx hy e0 e1

end Go.Proofs.Ytllcklddfcclfaa
