/- The walk of OrderInts. -/
import Derived.Test.YtncloielmfplpaaRefG5
import Derived.Test.YtncloielmfplpaaRefR5
import Derived.Test.YtncloielmfplpaaSame5
import Derived.Test.YtncloielmfplpaaReachAI
import Derived.Test.YtncloielmfplpaaWakes5
import Derived.Deep.QuietTactic
namespace Go.Proofs.Ytncloielmfplpaa
open Go.ChangeShapes Go.WideShapes Go.ChangeAt Go.RowKit
set_option linter.unusedVariables false
set_option linter.unusedSimpArgs false

set_option maxRecDepth 100000 in
set_option maxHeartbeats 4000000 in
theorem orderInts_walk (nv uv : Value) (nodes : List Int) (uses : List (Int × Int)) (x : Int) (w : World) (hn : Rd w 1 nv nodes.length (cellsOf encI nodes)) (hu : Rd w 2 uv uses.length (cellsOf encPrI uses)) :
    Calls Try.prog 5 #[nv, uv, .int .i64 x] w fun e w' => e = .returned (.bool true) ∧ Below w.heap.size w w' := by
  obtain ⟨na, nc, rfl, n1, n2, n3⟩ := hn.2
  obtain ⟨ua, uc, rfl, u1, u2, u3⟩ := hu.2
  have HN := Lib.hid hn
  have HU := Lib.hid hu
  unfold maxLen at n2 u2
  clear hn hu n3 u3
  by_cases hf : ¬ (nodes.length ≤ 100 ∧ uses.length ≤ 1000)
  · go_enter Try.func5, Try.ntmps5
    go_wp2_with fail
    refine (wakes5 w).mono ?_
    rintro e w1 ⟨rfl, hb1⟩
    go_wp2_with fail
    refine (fewN (w := w1) (na := na) (nc := nc) (ua := ua) (uc := uc) hf).mono ?_
    rintro e w2 ⟨rfl, rfl⟩
    go_wp2
    go_ret
    exact ⟨rfl, hb1⟩
  have hf1 : nodes.length ≤ 100 := by omega
  have hf2 : uses.length ≤ 1000 := by omega
  clear hf
  go_enter Try.func5, Try.ntmps5
  go_wp2_with fail
  refine (wakes5 w).mono ?_
  rintro e w1 ⟨rfl, hb1⟩
  have HB1 := Lib.hid hb1
  have HN1 := Lib.hid (HN.out.later hb1)
  have HU1 := Lib.hid (HU.out.later hb1)
  clear hb1
  go_wp2_with fail
  refine (fewY (w := w1) (na := na) (nc := nc) (ua := ua) (uc := uc) hf1 hf2).mono ?_
  rintro e w2 ⟨rfl, rfl⟩
  go_wp2_with fail
  refine (refGroups5 HN1.out HU1.out hf1 hf2).mono ?_
  rintro e w2 ⟨wv, FW, rfl, lw, k2, _⟩
  have LW := Lib.hid lw
  have K2 := Lib.hid k2
  obtain ⟨wa, wc, rfl, _, _, _⟩ := lw.shape
  have HN2 := Lib.hid (HN1.out.frame k2 (fun _ _ => id))
  have HU2 := Lib.hid (HU1.out.frame k2 (fun _ _ => id))
  clear lw k2
  go_wp2_with fail
  refine (groupsI HN2.out HU2.out hf1 hf2).mono ?_
  rintro e w3 ⟨gv, FG, rfl, lg, k3, _⟩
  have LG := Lib.hid lg
  have K3 := Lib.hid k3
  obtain ⟨ga, gc, rfl, _, _, _⟩ := lg.shape
  have HN3 := Lib.hid (HN2.out.frame k3 (fun _ _ => id))
  have HU3 := Lib.hid (HU2.out.frame k3 (fun _ _ => id))
  clear lg k3
  go_wp2_with fail
  refine (refReach5 HN3.out HU3.out hf1 hf2 x).mono ?_
  rintro e w4 ⟨yv, rfl, oy, k4, _⟩
  have OY := Lib.hid oy
  have K4 := Lib.hid k4
  obtain ⟨ya, yc, rfl, _, _, _⟩ := oy.shape
  have HN4 := Lib.hid (HN3.out.frame k4 (fun _ _ => id))
  have HU4 := Lib.hid (HU3.out.frame k4 (fun _ _ => id))
  clear oy k4
  go_wp2_with fail
  refine (reachAllI HN4.out HU4.out hf1 hf2 x).mono ?_
  rintro e w5 ⟨xv, rfl, ox, k5, _⟩
  have K45 := Lib.hid ((K4.out.trans' k5 (fun _ _ h => h)))
  have K35 := Lib.hid ((K3.out.trans' K45.out (fun _ _ h => h)))
  have HB5 := Lib.hid (below_step HB1.out (Nat.le_refl _) (K2.out.trans' K35.out (fun _ _ h => h)) (fun _ h => h.elim))
  obtain ⟨xa, xc, rfl, _, _, _⟩ := ox.shape
  have HS1 : Hid (Calls Try.prog 16 #[.slice ga (gOut nodes uses).length gc, .slice wa (gOut nodes uses).length wc] w5 fun e w' => e = .returned (.bool true) ∧ ∃ m, w' = w5.drewN m) := Lib.hid
    (same5 (RdLs.of_ls (LG.out.frame K45.out (fun _ _ => id))) (RdLs.of_ls (LW.out.frame K35.out (fun _ _ => id))))
  have HS2 : Hid (∀ n, Calls Try.prog 17 #[.slice xa (rOut nodes uses x).length xc, .slice ya (rOut nodes uses x).length yc] (w5.drewN n) fun e w' => e = .returned (.bool true) ∧ ∃ m, w' = (w5.drewN n).drewN m) := Lib.hid fun n => by
    have := sameQI _ _ _ _ (w5.drewN n) ((ox.frame ((Kept.refl (fun _ => False) w5).drewN n) (fun _ _ => id)).rd) (((OY.out.frame k5 (fun _ _ => id)).frame ((Kept.refl (fun _ => False) w5).drewN n) (fun _ _ => id)).rd)
    rw [decide_eq_true rfl] at this
    exact this
  have HBD : Hid (∀ n, Below w.heap.size w (w5.drewN n)) := Lib.hid fun n => below_step HB5.out (Nat.le_refl _) ((Kept.refl (fun _ => False) w5).drewN n) (fun _ h => h.elim)
  have h1 : (errOf nodes uses == errOf nodes uses) = true := by simp
  have h2 : (rErr nodes uses x == rErr nodes uses x) = true := by simp
  generalize errOf nodes uses = er at h1
  generalize rErr nodes uses x = rr at h2
  generalize (rOut nodes uses x).length = rl at HS2
  generalize (gOut nodes uses).length = gl at HS1
  clear ox k5 HB5 K45 K35 K4 K3 K2 OY LG LW HN1 HN2 HN3 HN4 HU1 HU2 HU3 HU4
  go_wp2_with fail
  refine HS1.out.mono ?_
  rintro e w6 ⟨rfl, m6, rfl⟩
  go_wp2_with fail
  refine (HS2.out m6).mono ?_
  rintro e w7 ⟨rfl, m7, rfl⟩
  have HQ : Hid (Below w.heap.size w ((w5.drewN m6).drewN m7)) := Lib.hid (by rw [World.drewN_drewN]; exact HBD.out _)
  generalize (w5.drewN m6).drewN m7 = w8 at HQ ⊢
  go_wp2
  go_ret
  exact ⟨rfl, HQ.out⟩

set_option maxRecDepth 100000 in
theorem orderInts_calls : LawCalls Try.prog 5 Try.f5 := by
  intro H enc W args ds ps hval hA hsz
  rw [Try.params5] at hA hval hsz
  obtain ⟨v0, v1, v2, d0, d1, d2, p0, p1, p2, rfl, rfl, _, h0, h1, h2⟩ := trodAll_three hA
  obtain ⟨base0, hok0⟩ := hval 0 _ v0 rfl rfl
  obtain ⟨base1, hok1⟩ := hval 1 _ v1 rfl rfl
  obtain ⟨base2, hok2⟩ := hval 2 _ v2 rfl rfl
  obtain ⟨xs, hx, _, _⟩ := open_ints_arg hok0 h0
  obtain ⟨rows, hr, _, _, _⟩ := open_arrays_arg (m0 := 2) Try.underlying23 Try.underlying31 Try.underlying3 (by kernel_rfl) (by kernel_rfl) hok1 h1
  obtain ⟨k, rfl, _, _, _⟩ := open_int Try.underlying3 hok2 h2
  exact orderInts_walk v0 v1 xs (rows.map prOf) k W hx (rdPairs hr)

end Go.Proofs.Ytncloielmfplpaa
