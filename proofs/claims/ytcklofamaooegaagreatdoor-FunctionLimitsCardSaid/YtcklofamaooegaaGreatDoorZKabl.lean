/-
  The claim's own texts, packed. Conditions: those typed in each theorem.
-/
import Derived.Test.YtcklofamaooegaaGreatDoorZKabk
import Derived.Test.YtcklofamaooegaaGreatDoorZKaaf
set_option maxHeartbeats 4000000
set_option maxRecDepth 10000
set_option linter.unusedVariables false
namespace Go.Proofs.YtcklofamaooegaaGreatDoor
open Go.RowKit
def moN (y m n : Int) : Int := (y - 2000) * 12 + m - 1 + n
def shY (y m n : Int) : Int := 2000 + moN y m n / 12
def shM (y m n : Int) : Int := moN y m n % 12 + 1
def shD (y m d n : Int) : Int := min d (Cal.dim (shY y m n) (shM y m n))
def shV (y m d c n : Int) : Int := (Cal.dby (shY y m n) + Cal.cum (shY y m n) (shM y m n) + shD y m d n - 1) * 1440 + c
theorem shift_yes (y m d c n : Int) (w : World) (h1 : 2000 ≤ y) (h2 : y ≤ 2099) (h3 : 1 ≤ m) (h4 : m ≤ 12) (h5 : 1 ≤ d) (h6 : d ≤ 31) (h7 : 0 ≤ c) (h8 : c ≤ 1439)
  (hn1 : 0 ≤ moN y m n) (hn2 : moN y m n ≤ 1199) :
  Calls Tryz.prog 122 #[.agg #[.int .i64 y, .int .i64 m, .int .i64 d], .int .i64 c, .int .i64 n] w fun e w' => e = .returned (.tuple #[.int .i64 (shV y m d c n), .int .i64 0]) ∧ Below w.heap.size w w' := by
 have k1 : -2000000000 ≤ n := by unfold moN at hn1; omega
 have k2 : n ≤ 2000000000 := by unfold moN at hn2; omega
 have hY1 : 2000 ≤ shY y m n := by unfold shY; omega
 have hY2 : shY y m n ≤ 2099 := by unfold shY; omega
 have hM1 : 1 ≤ shM y m n := by unfold shM; omega
 have hM2 : shM y m n ≤ 12 := by unfold shM; omega
 have hD := Cal.dim_bd (shY y m n) (shM y m n)
 have hS1 : 1 ≤ shD y m d n := by unfold shD; omega
 have hv : Cal.vd (shY y m n) (shM y m n) (shD y m d n) c = true := Cal.vd_iff.2 ⟨hY1, hY2, hM1, hM2, hS1, by unfold shD; omega, h7, by omega⟩
 have hE : (y - 2000) * 12 + m - 1 + n = moN y m n := rfl
 have hX : 2000 + moN y m n / 12 = shY y m n := rfl
 have hZ : moN y m n % 12 + 1 = shM y m n := rfl
 go_enter Tryz.func122, Tryz.ntmps122
 go_wp2_with fail
 clear hE hX hZ
 have hS : min d (Cal.dim (shY y m n) (shM y m n)) = shD y m d n := rfl
 refine wp_region_gr_tail 8 (by kernel_rfl) (by kernel_rfl) ?_
 simp only [List.take_succ_cons, List.take_zero, List.drop_succ_cons, List.drop_zero]
 repeat (go_big_quiet_step ((go_at_call 125; exact gr_same (length_any _ _ _ (by omega) (by omega)))))
 refine wpQuiet_nil ?_
 intro _ hw'; obtain ⟨w1, hw''⟩ := hw'; subst hw''
 have hB := gr_below (w.alloc (.cells #[.int .i64 (shY y m n), .int .i64 (shM y m n), .int .i64 d] 92)) w1
 generalize gr (w.alloc (.cells #[.int .i64 (shY y m n), .int .i64 (shM y m n), .int .i64 d] 92)) w1 = w2 at *
 have K := (Known.made w _ _).on hB
 obtain ⟨f0, f1, f2⟩ := K.three
 have g2 := K.free 2
 go_wp2_with fail
 refine (minute_yes _ _ _ _ _ hv).mono ?_
 rintro e w3 ⟨rfl, hb3⟩
 go_wp2_with fail
 go_ret2
 exact ⟨rfl, (((below_new0 w _).then_ hB).setCell (p := ⟨w.heap.size, 2, none⟩) (Nat.le_refl _) _).then_ hb3⟩
theorem shift_no (y m d c n : Int) (w : World) (h1 : 2000 ≤ y) (h2 : y ≤ 2099) (h3 : 1 ≤ m) (h4 : m ≤ 12) (k1 : -2000000000 ≤ n) (k2 : n ≤ 2000000000) (hn : moN y m n < 0 ∨ 1200 ≤ moN y m n) :
  Calls Tryz.prog 122 #[.agg #[.int .i64 y, .int .i64 m, .int .i64 d], .int .i64 c, .int .i64 n] w fun e w' => e = .returned (.tuple #[.int .i64 0, .int .i64 15]) ∧ Below w.heap.size w w' := by
 have hE : (y - 2000) * 12 + m - 1 + n = moN y m n := rfl
 rcases hn with hn | hn
 all_goals
  go_enter Tryz.func122, Tryz.ntmps122
  go_wp2_with fail
  go_ret2
  exact ⟨rfl, below_new0 _ _⟩
def adV (t u n : Int) : Int := if u = 1 then t + n else if u = 2 then t + n * 60 else if u = 3 then t + n * 1440
 else shV (Cal.yOf (t / 1440)) (Cal.mOf (t / 1440)) (Cal.dOf (t / 1440)) (t % 1440) (if u = 4 then n else 12 * n)
def adB (t u n : Int) : Bool := if u ≤ 3 then instB (adV t u n) else decide (0 ≤ moN (Cal.yOf (t / 1440)) (Cal.mOf (t / 1440)) (if u = 4 then n else 12 * n) ∧ moN (Cal.yOf (t / 1440)) (Cal.mOf (t / 1440)) (if u = 4 then n else 12 * n) ≤ 1199)
def adR (t u : Int) : Bool := decide (1 ≤ u ∧ u ≤ 5) && instB t
def adL (n : Int) : Bool := decide (-52596000 ≤ n ∧ n ≤ 52596000)
def adT (t u n : Int) : Int := if adR t u && adL n && adB t u n then adV t u n else 0
def adE (t u n : Int) : Int := if adR t u = true then (if (adL n && adB t u n) = true then 0 else 15) else 2
theorem add_range (t u n : Int) (w : World) (h : adR t u = false) :
  Calls Tryz.prog 63 #[.int .i64 t, .int .i64 u, .int .i64 n] w fun e w' => e = .returned (.tuple #[.int .i64 0, .int .i64 2]) ∧ Below w.heap.size w w' := by
 cases hn : instB t
 ·go_enter Tryz.func63, Tryz.ntmps63
  go_wp2_with fail
  refine (dateOf_no t _ hn).mono ?_
  rintro e w1 ⟨rfl, hb1⟩
  go_wp2_with fail
  go_ret2
  exact ⟨rfl, hb1.then_ (below_new0 _ _)⟩
 ·have hu : u < 1 ∨ 5 < u := by
   simp only [adR, hn, Bool.and_true, decide_eq_false_iff_not] at h
   omega
  rcases hu with hu | hu
  all_goals
   go_enter Tryz.func63, Tryz.ntmps63
   go_wp2_with fail
   refine (dateOf_yes t _ hn).mono ?_
   rintro e w1 ⟨rfl, hb1⟩
   go_wp2_with fail
   go_ret2
   exact ⟨rfl, hb1.then_ (below_new0 _ _)⟩
theorem add_far (t u n : Int) (w : World) (h : adR t u = true) (hn : adL n = false) :
  Calls Tryz.prog 63 #[.int .i64 t, .int .i64 u, .int .i64 n] w fun e w' => e = .returned (.tuple #[.int .i64 0, .int .i64 15]) ∧ Below w.heap.size w w' := by
 simp only [adR, Bool.and_eq_true, decide_eq_true_eq] at h
 obtain ⟨⟨u1, u2⟩, ht⟩ := h
 have hn' : n < -52596000 ∨ 52596000 < n := by
  simp only [adL, decide_eq_false_iff_not] at hn
  omega
 clear hn
 rcases hn' with hn | hn
 all_goals
  go_enter Tryz.func63, Tryz.ntmps63
  go_wp2_with fail
  refine (dateOf_yes t _ ht).mono ?_
  rintro e w1 ⟨rfl, hb1⟩
  go_wp2_with fail
  go_ret2
  exact ⟨rfl, hb1.then_ (below_new0 _ _)⟩
theorem add_small (t u n : Int) (w : World) (ht : instB t = true) (u1 : 1 ≤ u) (u2 : u ≤ 3) (n1 : -52596000 ≤ n) (n2 : n ≤ 52596000) :
  Calls Tryz.prog 63 #[.int .i64 t, .int .i64 u, .int .i64 n] w fun e w' => e = .returned (.tuple #[.int .i64 (if instB (adV t u n) = true then adV t u n else 0), .int .i64 (if instB (adV t u n) = true then 0 else 15)]) ∧ Below w.heap.size w w' := by
 obtain ⟨t1, t2⟩ := instB_iff.1 ht
 rcases (show u = 1 ∨ u = 2 ∨ u = 3 by omega) with rfl | rfl | rfl
 ·have e : adV t 1 n = t + n := by simp [adV]
  rw [e]
  cases hi : instB (t + n)
  all_goals
   go_enter Tryz.func63, Tryz.ntmps63
   go_wp2_with fail
   refine (dateOf_yes t _ ht).mono ?_
   rintro e w1 ⟨rfl, hb1⟩
   go_wp2_with fail
   refine (instant_any _ _).mono ?_
   rintro e w2 ⟨rfl, rfl⟩
   go_wp2_with fail
   go_ret2
   exact ⟨rfl, hb1.then_ (below_new0 _ _)⟩
 ·have e : adV t 2 n = t + n * 60 := by simp [adV]
  rw [e]
  cases hi : instB (t + n * 60)
  all_goals
   go_enter Tryz.func63, Tryz.ntmps63
   go_wp2_with fail
   refine (dateOf_yes t _ ht).mono ?_
   rintro e w1 ⟨rfl, hb1⟩
   go_wp2_with fail
   refine (instant_any _ _).mono ?_
   rintro e w2 ⟨rfl, rfl⟩
   go_wp2_with fail
   go_ret2
   exact ⟨rfl, hb1.then_ (below_new0 _ _)⟩
 ·have e : adV t 3 n = t + n * 1440 := by simp [adV]
  rw [e]
  cases hi : instB (t + n * 1440)
  all_goals
   go_enter Tryz.func63, Tryz.ntmps63
   go_wp2_with fail
   refine (dateOf_yes t _ ht).mono ?_
   rintro e w1 ⟨rfl, hb1⟩
   go_wp2_with fail
   refine (instant_any _ _).mono ?_
   rintro e w2 ⟨rfl, rfl⟩
   go_wp2_with fail
   go_ret2
   exact ⟨rfl, hb1.then_ (below_new0 _ _)⟩
theorem add_months (t u n : Int) (w : World) (ht : instB t = true) (u1 : 4 ≤ u) (u2 : u ≤ 5) (n1 : -52596000 ≤ n) (n2 : n ≤ 52596000) :
  Calls Tryz.prog 63 #[.int .i64 t, .int .i64 u, .int .i64 n] w fun e w' => e = .returned (.tuple #[.int .i64 (if adB t u n = true then adV t u n else 0), .int .i64 (if adB t u n = true then 0 else 15)]) ∧ Below w.heap.size w w' := by
 obtain ⟨t1, t2⟩ := instB_iff.1 ht
 obtain ⟨a1, a2, a3, a4, a5, a6, a7⟩ := Cal.dateOf_spec (t / 1440) (by omega) (by omega)
 have a8 := Cal.dim_bd (Cal.yOf (t / 1440)) (Cal.mOf (t / 1440))
 clear a7
 rcases (show u = 4 ∨ u = 5 by omega) with rfl | rfl
 ·have e : adV t 4 n = shV (Cal.yOf (t / 1440)) (Cal.mOf (t / 1440)) (Cal.dOf (t / 1440)) (t % 1440) n := by simp [adV]
  have eb : adB t 4 n = decide (0 ≤ moN (Cal.yOf (t / 1440)) (Cal.mOf (t / 1440)) n ∧ moN (Cal.yOf (t / 1440)) (Cal.mOf (t / 1440)) n ≤ 1199) := by simp [adB]
  rw [e, eb]
  by_cases hr : 0 ≤ moN (Cal.yOf (t / 1440)) (Cal.mOf (t / 1440)) n ∧ moN (Cal.yOf (t / 1440)) (Cal.mOf (t / 1440)) n ≤ 1199
  ·rw [decide_eq_true hr, if_pos rfl, if_pos rfl]
   obtain ⟨r1, r2⟩ := hr
   go_enter Tryz.func63, Tryz.ntmps63
   go_wp2_with fail
   refine (dateOf_yes t _ ht).mono ?_
   rintro e w1 ⟨rfl, hb1⟩
   go_wp2_with fail
   refine (shift_yes _ _ _ _ _ _ a1 a2 a3 a4 a5 (by omega) (by omega) (by omega) r1 r2).mono ?_
   rintro e w2 ⟨rfl, hb2⟩
   go_wp2_with fail
   go_ret2
   exact ⟨rfl, (hb1.then_ (below_new0 _ _)).then_ hb2⟩
  ·rw [decide_eq_false hr, if_neg Bool.false_ne_true, if_neg Bool.false_ne_true]
   go_enter Tryz.func63, Tryz.ntmps63
   go_wp2_with fail
   refine (dateOf_yes t _ ht).mono ?_
   rintro e w1 ⟨rfl, hb1⟩
   go_wp2_with fail
   refine (shift_no _ _ _ _ _ _ a1 a2 a3 a4 (by omega) (by omega) (by omega)).mono ?_
   rintro e w2 ⟨rfl, hb2⟩
   go_wp2_with fail
   go_ret2
   exact ⟨rfl, (hb1.then_ (below_new0 _ _)).then_ hb2⟩
 ·have e : adV t 5 n = shV (Cal.yOf (t / 1440)) (Cal.mOf (t / 1440)) (Cal.dOf (t / 1440)) (t % 1440) (12 * n) := by simp [adV]
  have eb : adB t 5 n = decide (0 ≤ moN (Cal.yOf (t / 1440)) (Cal.mOf (t / 1440)) (12 * n) ∧ moN (Cal.yOf (t / 1440)) (Cal.mOf (t / 1440)) (12 * n) ≤ 1199) := by simp [adB]
  rw [e, eb]
  by_cases hr : 0 ≤ moN (Cal.yOf (t / 1440)) (Cal.mOf (t / 1440)) (12 * n) ∧ moN (Cal.yOf (t / 1440)) (Cal.mOf (t / 1440)) (12 * n) ≤ 1199
  ·rw [decide_eq_true hr, if_pos rfl, if_pos rfl]
   obtain ⟨r1, r2⟩ := hr
   go_enter Tryz.func63, Tryz.ntmps63
   go_wp2_with fail
   refine (dateOf_yes t _ ht).mono ?_
   rintro e w1 ⟨rfl, hb1⟩
   go_wp2_with fail
   refine (shift_yes _ _ _ _ _ _ a1 a2 a3 a4 a5 (by omega) (by omega) (by omega) r1 r2).mono ?_
   rintro e w2 ⟨rfl, hb2⟩
   go_wp2_with fail
   go_ret2
   exact ⟨rfl, (hb1.then_ (below_new0 _ _)).then_ hb2⟩
  ·rw [decide_eq_false hr, if_neg Bool.false_ne_true, if_neg Bool.false_ne_true]
   go_enter Tryz.func63, Tryz.ntmps63
   go_wp2_with fail
   refine (dateOf_yes t _ ht).mono ?_
   rintro e w1 ⟨rfl, hb1⟩
   go_wp2_with fail
   refine (shift_no _ _ _ _ _ _ a1 a2 a3 a4 (by omega) (by omega) (by omega)).mono ?_
   rintro e w2 ⟨rfl, hb2⟩
   go_wp2_with fail
   go_ret2
   exact ⟨rfl, (hb1.then_ (below_new0 _ _)).then_ hb2⟩
theorem add_any (t u n : Int) (w : World) :
  Calls Tryz.prog 63 #[.int .i64 t, .int .i64 u, .int .i64 n] w fun e w' => e = .returned (.tuple #[.int .i64 (adT t u n), .int .i64 (adE t u n)]) ∧ Below w.heap.size w w' := by
 cases h : adR t u
 ·simp only [adT, adE, h, Bool.false_and, Bool.false_eq_true, if_false]
  exact add_range t u n w h
 ·cases hn : adL n
  ·simp only [adT, adE, h, hn, Bool.and_false, Bool.false_and, Bool.false_eq_true, if_false, if_true]
   exact add_far t u n w h hn
  ·simp only [adT, adE, h, hn, Bool.true_and, if_true]
   simp only [adR, adL, Bool.and_eq_true, decide_eq_true_eq] at h hn
   by_cases hu : u ≤ 3
   ·rw [show adB t u n = instB (adV t u n) by simp [adB, hu]]
    exact add_small t u n w h.2 h.1.1 hu hn.1 hn.2
   ·exact add_months t u n w h.2 (by omega) h.1.2 hn.1 hn.2
end Go.Proofs.YtcklofamaooegaaGreatDoor
