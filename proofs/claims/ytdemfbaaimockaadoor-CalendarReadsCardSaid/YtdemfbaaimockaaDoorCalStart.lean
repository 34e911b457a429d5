/-
  The beginning of a unit, by the program and by the reference. Conditions: those typed in each theorem.
-/
import Derived.Test.YtdemfbaaimockaaDoorCalAll
namespace Go.Proofs.YtdemfbaaimockaaDoor
open Go.RowKit

/-- the beginning of unit u of an instant -/
def stV (u n : Int) : Int := if u = 1 then n else if u = 2 then n - n % 60 else if u = 3 then n - n % 1440 else if u = 4 then (Cal.dby (Cal.yOf (n / 1440)) + Cal.cum (Cal.yOf (n / 1440)) (Cal.mOf (n / 1440))) * 1440 else Cal.dby (Cal.yOf (n / 1440)) * 1440
def stB (u n : Int) : Bool := decide (1 ≤ u ∧ u ≤ 5) && instB n

def stU (u n : Int) : Int := if stB u n = true then stV u n else 0
def stE (u n : Int) : Int := if stB u n = true then 0 else 2
theorem stB_yes {u n : Int} : stB u n = true ↔ 1 ≤ u ∧ u ≤ 5 ∧ instB n = true := by simp [stB, and_assoc]
theorem vd_first {y m : Int} (h1 : 2000 ≤ y) (h2 : y ≤ 2099) (h3 : 1 ≤ m) (h4 : m ≤ 12) : Cal.vd y m 1 0 = true := by
  have := Cal.dim_bd y m
  exact Cal.vd_iff.2 (by omega)

set_option maxHeartbeats 2000000 in
theorem start_yes (u n : Int) (w : World) (h1 : 1 ≤ u) (h2 : u ≤ 5) (hn : instB n = true) :
    Calls Tryd.prog 24 #[.int .i64 u, .int .i64 n] w fun e w' => e = .returned (.tuple #[.int .i64 (stV u n), .int .i64 0]) ∧ Below w.heap.size w w' := by
  obtain ⟨k1, k2⟩ := instB_iff.1 hn
  obtain ⟨a1, a2, a3, a4, a5, a6, a7⟩ := Cal.dateOf_spec (n / 1440) (by omega) (by omega)
  clear a7
  rcases (show u = 1 ∨ u = 2 ∨ u = 3 ∨ u = 4 ∨ u = 5 by omega) with rfl | rfl | rfl | rfl | rfl
  · go_enter Tryd.func24, Tryd.ntmps24
    go_wp2_with fail
    refine (dateOf_yes n _ hn).mono ?_
    rintro e w1 ⟨rfl, hb1⟩
    go_wp2_with fail
    go_ret2
    exact ⟨ret_int2 (by simp [stV]) rfl, hb1.then_ (below_new0 _ _)⟩
  · go_enter Tryd.func24, Tryd.ntmps24
    go_wp2_with fail
    refine (dateOf_yes n _ hn).mono ?_
    rintro e w1 ⟨rfl, hb1⟩
    go_wp2_with fail
    go_ret2
    exact ⟨ret_int2 (by simp [stV]) rfl, hb1.then_ (below_new0 _ _)⟩
  · go_enter Tryd.func24, Tryd.ntmps24
    go_wp2_with fail
    refine (dateOf_yes n _ hn).mono ?_
    rintro e w1 ⟨rfl, hb1⟩
    go_wp2_with fail
    go_ret2
    exact ⟨ret_int2 (by simp [stV]) rfl, hb1.then_ (below_new0 _ _)⟩
  · go_enter Tryd.func24, Tryd.ntmps24
    go_wp2_with fail
    refine (dateOf_yes n _ hn).mono ?_
    rintro e w1 ⟨rfl, hb1⟩
    go_wp2_with fail
    refine (minute_yes _ _ _ _ _ (vd_first a1 a2 a3 a4)).mono ?_
    rintro e w2 ⟨rfl, hb2⟩
    go_wp2_with fail
    go_ret2
    exact ⟨ret_int2 (by simp [stV]; try omega) rfl, (hb1.then_ (below_new0 _ _)).then_ hb2⟩
  · go_enter Tryd.func24, Tryd.ntmps24
    go_wp2_with fail
    refine (dateOf_yes n _ hn).mono ?_
    rintro e w1 ⟨rfl, hb1⟩
    go_wp2_with fail
    refine (minute_yes _ _ _ _ _ (vd_first a1 a2 (by omega) (by omega))).mono ?_
    rintro e w2 ⟨rfl, hb2⟩
    go_wp2_with fail
    go_ret2
    exact ⟨ret_int2 (by simp [stV, Cal.cum_one]; try omega) rfl, (hb1.then_ (below_new0 _ _)).then_ hb2⟩
theorem start_no (u n : Int) (w : World) (h : stB u n = false) :
    Calls Tryd.prog 24 #[.int .i64 u, .int .i64 n] w fun e w' => e = .returned (.tuple #[.int .i64 0, .int .i64 2]) ∧ Below w.heap.size w w' := by
  cases hn : instB n
  · go_enter Tryd.func24, Tryd.ntmps24
    go_wp2_with fail
    refine (dateOf_no n _ hn).mono ?_
    rintro e w1 ⟨rfl, hb1⟩
    go_wp2_with fail
    go_ret2
    exact ⟨rfl, hb1.then_ (below_new0 _ _)⟩
  · have hu : u < 1 ∨ 5 < u := by
      simp only [stB, hn, Bool.and_true, decide_eq_false_iff_not] at h
      omega
    rcases hu with hu | hu
    all_goals
      go_enter Tryd.func24, Tryd.ntmps24
      go_wp2_with fail
      refine (dateOf_yes n _ hn).mono ?_
      rintro e w1 ⟨rfl, hb1⟩
      go_wp2_with fail
      go_ret2
      exact ⟨rfl, hb1.then_ (below_new0 _ _)⟩

set_option maxHeartbeats 2000000 in
theorem start_ref_yes (u n : Int) (w : World) (h1 : 1 ≤ u) (h2 : u ≤ 5) (hn : instB n = true) :
    Calls Tryd.prog 25 #[.int .i64 u, .int .i64 n] w fun e w' => e = .returned (.tuple #[.int .i64 (stV u n), .int .i64 0]) ∧ Below w.heap.size w w' := by
  obtain ⟨k1, k2⟩ := instB_iff.1 hn
  obtain ⟨a1, a2, a3, a4, a5, a6, a7⟩ := Cal.dateOf_spec (n / 1440) (by omega) (by omega)
  clear a7
  rcases (show u = 1 ∨ u = 2 ∨ u = 3 ∨ u = 4 ∨ u = 5 by omega) with rfl | rfl | rfl | rfl | rfl
  · go_enter Tryd.func25, Tryd.ntmps25
    go_wp2_with fail
    refine (dateOf_ref_yes n _ hn).mono ?_
    rintro e w1 ⟨rfl, hb1⟩
    go_wp2_with fail
    go_ret2
    exact ⟨ret_int2 (by simp [stV]) rfl, hb1.then_ (below_new0 _ _)⟩
  · go_enter Tryd.func25, Tryd.ntmps25
    go_wp2_with fail
    refine (dateOf_ref_yes n _ hn).mono ?_
    rintro e w1 ⟨rfl, hb1⟩
    go_wp2_with fail
    go_ret2
    exact ⟨ret_int2 (by simp [stV]) rfl, hb1.then_ (below_new0 _ _)⟩
  · go_enter Tryd.func25, Tryd.ntmps25
    go_wp2_with fail
    refine (dateOf_ref_yes n _ hn).mono ?_
    rintro e w1 ⟨rfl, hb1⟩
    go_wp2_with fail
    go_ret2
    exact ⟨ret_int2 (by simp [stV]) rfl, hb1.then_ (below_new0 _ _)⟩
  · go_enter Tryd.func25, Tryd.ntmps25
    go_wp2_with fail
    refine (dateOf_ref_yes n _ hn).mono ?_
    rintro e w1 ⟨rfl, hb1⟩
    go_wp2_with fail
    refine (minute_ref_yes _ _ _ _ _ (vd_first a1 a2 a3 a4)).mono ?_
    rintro e w2 ⟨rfl, hb2⟩
    go_wp2_with fail
    go_ret2
    exact ⟨ret_int2 (by simp [stV]; try omega) rfl, (hb1.then_ (below_new0 _ _)).then_ hb2⟩
  · go_enter Tryd.func25, Tryd.ntmps25
    go_wp2_with fail
    refine (dateOf_ref_yes n _ hn).mono ?_
    rintro e w1 ⟨rfl, hb1⟩
    go_wp2_with fail
    refine (minute_ref_yes _ _ _ _ _ (vd_first a1 a2 (by omega) (by omega))).mono ?_
    rintro e w2 ⟨rfl, hb2⟩
    go_wp2_with fail
    go_ret2
    exact ⟨ret_int2 (by simp [stV, Cal.cum_one]; try omega) rfl, (hb1.then_ (below_new0 _ _)).then_ hb2⟩
theorem start_ref_no (u n : Int) (w : World) (h : stB u n = false) :
    Calls Tryd.prog 25 #[.int .i64 u, .int .i64 n] w fun e w' => e = .returned (.tuple #[.int .i64 0, .int .i64 2]) ∧ Below w.heap.size w w' := by
  cases hn : instB n
  · go_enter Tryd.func25, Tryd.ntmps25
    go_wp2_with fail
    refine (dateOf_ref_no n _ hn).mono ?_
    rintro e w1 ⟨rfl, hb1⟩
    go_wp2_with fail
    go_ret2
    exact ⟨rfl, hb1.then_ (below_new0 _ _)⟩
  · have hu : u < 1 ∨ 5 < u := by
      simp only [stB, hn, Bool.and_true, decide_eq_false_iff_not] at h
      omega
    rcases hu with hu | hu
    all_goals
      go_enter Tryd.func25, Tryd.ntmps25
      go_wp2_with fail
      refine (dateOf_ref_yes n _ hn).mono ?_
      rintro e w1 ⟨rfl, hb1⟩
      go_wp2_with fail
      go_ret2
      exact ⟨rfl, hb1.then_ (below_new0 _ _)⟩

theorem start_any (u n : Int) (w : World) : Calls Tryd.prog 24 #[.int .i64 u, .int .i64 n] w fun e w' => e = .returned (.tuple #[.int .i64 (stU u n), .int .i64 (stE u n)]) ∧ Below w.heap.size w w' := by
  cases h : stB u n <;> simp only [stU, stE, h, if_true, if_false, Bool.false_eq_true]
  · exact start_no u n w h
  · obtain ⟨h1, h2, h3⟩ := stB_yes.1 h; exact start_yes u n w h1 h2 h3
theorem start_ref (u n : Int) (w : World) : Calls Tryd.prog 25 #[.int .i64 u, .int .i64 n] w fun e w' => e = .returned (.tuple #[.int .i64 (stU u n), .int .i64 (stE u n)]) ∧ Below w.heap.size w w' := by
  cases h : stB u n <;> simp only [stU, stE, h, if_true, if_false, Bool.false_eq_true]
  · exact start_ref_no u n w h
  · obtain ⟨h1, h2, h3⟩ := stB_yes.1 h; exact start_ref_yes u n w h1 h2 h3
end Go.Proofs.YtdemfbaaimockaaDoor
