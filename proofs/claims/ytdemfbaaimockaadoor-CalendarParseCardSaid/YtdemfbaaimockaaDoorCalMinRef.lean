/-
  The instant of a date and a clock, by the reference. Conditions: those typed in each theorem.
-/
import Derived.Test.YtdemfbaaimockaaDoorBase
import Derived.Test.YtdemfbaaimockaaDoorCalWalks
namespace Go.Proofs.YtdemfbaaimockaaDoor
open Go.RowKit

theorem yearDays_ref (y : Int) (w : World) (hy : 2000 ≤ y) (hy2 : y ≤ 2099) :
    Calls Tryd.prog 34 #[.int .i64 y] w fun e w' => e = .returned (.int .i64 (337 + Cal.dim y 2)) ∧ Below w.heap.size w w' := by
  have hd := Cal.dim_bd y 2
  go_enter Tryd.func34, Tryd.ntmps34
  go_wp2_with (go_at_call 32; refine (days_ref _ _ _ (by omega) (by omega) (by omega) (by omega)).mono ?_; rintro e w' ⟨rfl, hb⟩)
  go_ret
  exact ⟨rfl, hb⟩

/-- a date's block and the rest of the old memory, kept -/
theorem date_keep {w w1 w2 : World} {y m d : Int} {T : TypeId} (h : Below (w.heap.size + 1) (w.alloc (.cells #[.int .i64 y, .int .i64 m, .int .i64 d] T)) w1) (h2 : Below w1.heap.size w1 w2) :
    Below (w.heap.size + 1) (w.alloc (.cells #[.int .i64 y, .int .i64 m, .int .i64 d] T)) w2 ∧ w2.cell? ⟨w.heap.size, 0, none⟩ = some (.int .i64 y) ∧ w2.cell? ⟨w.heap.size, 1, none⟩ = some (.int .i64 m) ∧ w2.cell? ⟨w.heap.size, 2, none⟩ = some (.int .i64 d) := by
  have hs := h.size
  simp at hs
  have hb := h.trans (h2.mono (B' := w.heap.size + 1) (by omega))
  refine ⟨hb, ?_, ?_, ?_⟩
  all_goals (rw [hb.cell (by show w.heap.size < _; omega)]; simp)

theorem before_ref (y m d : Int) (w : World) (h1 : 2000 ≤ y) (h2 : y ≤ 2099) (h3 : 1 ≤ m) (h4 : m ≤ 12) (h5 : 1 ≤ d) (h6 : d ≤ 31) :
    Calls Tryd.prog 33 #[.agg #[.int .i64 y, .int .i64 m, .int .i64 d]] w fun e w' => e = .returned (.int .i64 (Cal.cum y m + d - 1)) ∧ Below w.heap.size w w' := by
  go_enter Tryd.func33, Tryd.ntmps33
  go_wp2
  go_loopw [3, 4] (fun n i wr => ∃ k : Int, 1 ≤ k ∧ k ≤ m ∧ i = .int .i64 k ∧ n = .int .i64 (Cal.cum y k + d - 1) ∧ Below (w.heap.size + 1) (w.alloc (.cells #[.int .i64 y, .int .i64 m, .int .i64 d] 23)) wr) (fun _ i _ => (12 - intOf i).toNat)
  case atStart => exact ⟨1, by omega, h3, rfl, by rw [Cal.cum_one, Int.zero_add], Below.refl _ _⟩
  case round =>
    obtain ⟨k, hk1, hk2, rfl, rfl, hb⟩ := hrel
    have hc := Cal.cum_bd y k hk1 (by omega)
    have hk := Cal.dim_bd y k
    obtain ⟨_, f0, f1, f2⟩ := date_keep hb (Below.refl _ _)
    by_cases hlt : k < m
    · have hs := Lib.hid (Cal.cum_succ y k hk1 (by omega))
      go_wp2_with (go_at_call 32; refine (days_ref _ _ _ (by omega) (by omega) (by omega) (by omega)).mono ?_; rintro e w1 ⟨rfl, hb1⟩)
      go_roundw
      case rel => exact ⟨k + 1, by omega, by omega, by go_num, by rw [hs.out]; go_num, (date_keep hb hb1).1⟩
      case measure => simp [intOf]; omega
    · obtain rfl : k = m := by omega
      go_wp2
      go_ret
      refine ⟨rfl, (below_new0 _ _).trans (hb.mono (by omega))⟩
set_option maxHeartbeats 4000000 in
theorem minute_ref_no (y m d c : Int) (w : World) (hv : Cal.vd y m d c = false) :
    Calls Tryd.prog 14 #[.agg #[.int .i64 y, .int .i64 m, .int .i64 d], .int .i64 c] w fun e w' => e = .returned (.tuple #[.int .i64 0, .int .i64 2]) ∧ Below w.heap.size w w' := by
  by_cases c0 : y < 2000
  · have e0 : decide (y < 2000) = true := by simpa using c0
    go_enter Tryd.func14, Tryd.ntmps14
    go_wp2
    refine wp_region_gr (by kernel_rfl) (by kernel_rfl) ?_
    repeat (go_big_quiet_step ((go_at_call 32; exact gr_call (days_ref _ _ _ (by omega) (by omega) (by omega) (by omega)))))
    refine wpQuiet_nil ?_
    intro _ hw'; obtain ⟨w1, hw''⟩ := hw'; subst hw''
    go_wp2
    go_ret2
    exact ⟨rfl, (below_new0 _ _).trans ((gr_below _ _).mono (by simp))⟩
  have e0 : decide (y < 2000) = false := by simpa using c0
  by_cases c1 : 2099 < y
  · have e1 : decide (2099 < y) = true := by simpa using c1
    go_enter Tryd.func14, Tryd.ntmps14
    go_wp2
    refine wp_region_gr (by kernel_rfl) (by kernel_rfl) ?_
    repeat (go_big_quiet_step ((go_at_call 32; exact gr_call (days_ref _ _ _ (by omega) (by omega) (by omega) (by omega)))))
    refine wpQuiet_nil ?_
    intro _ hw'; obtain ⟨w1, hw''⟩ := hw'; subst hw''
    go_wp2
    go_ret2
    exact ⟨rfl, (below_new0 _ _).trans ((gr_below _ _).mono (by simp))⟩
  have e1 : decide (2099 < y) = false := by simpa using c1
  by_cases c2 : m < 1
  · have e2 : decide (m < 1) = true := by simpa using c2
    go_enter Tryd.func14, Tryd.ntmps14
    go_wp2
    refine wp_region_gr (by kernel_rfl) (by kernel_rfl) ?_
    repeat (go_big_quiet_step ((go_at_call 32; exact gr_call (days_ref _ _ _ (by omega) (by omega) (by omega) (by omega)))))
    refine wpQuiet_nil ?_
    intro _ hw'; obtain ⟨w1, hw''⟩ := hw'; subst hw''
    go_wp2
    go_ret2
    exact ⟨rfl, (below_new0 _ _).trans ((gr_below _ _).mono (by simp))⟩
  have e2 : decide (m < 1) = false := by simpa using c2
  by_cases c3 : 12 < m
  · have e3 : decide (12 < m) = true := by simpa using c3
    go_enter Tryd.func14, Tryd.ntmps14
    go_wp2
    refine wp_region_gr (by kernel_rfl) (by kernel_rfl) ?_
    repeat (go_big_quiet_step ((go_at_call 32; exact gr_call (days_ref _ _ _ (by omega) (by omega) (by omega) (by omega)))))
    refine wpQuiet_nil ?_
    intro _ hw'; obtain ⟨w1, hw''⟩ := hw'; subst hw''
    go_wp2
    go_ret2
    exact ⟨rfl, (below_new0 _ _).trans ((gr_below _ _).mono (by simp))⟩
  have e3 : decide (12 < m) = false := by simpa using c3
  by_cases c4 : d < 1
  · have e4 : decide (d < 1) = true := by simpa using c4
    go_enter Tryd.func14, Tryd.ntmps14
    go_wp2
    refine wp_region_gr (by kernel_rfl) (by kernel_rfl) ?_
    repeat (go_big_quiet_step ((go_at_call 32; exact gr_call (days_ref _ _ _ (by omega) (by omega) (by omega) (by omega)))))
    refine wpQuiet_nil ?_
    intro _ hw'; obtain ⟨w1, hw''⟩ := hw'; subst hw''
    go_wp2
    go_ret2
    exact ⟨rfl, (below_new0 _ _).trans ((gr_below _ _).mono (by simp))⟩
  have e4 : decide (d < 1) = false := by simpa using c4
  by_cases c5 : Cal.dim y m < d
  · have e5 : decide (Cal.dim y m < d) = true := by simpa using c5
    go_enter Tryd.func14, Tryd.ntmps14
    go_wp2
    refine wp_region_gr (by kernel_rfl) (by kernel_rfl) ?_
    repeat (go_big_quiet_step ((go_at_call 32; exact gr_call (days_ref _ _ _ (by omega) (by omega) (by omega) (by omega)))))
    refine wpQuiet_nil ?_
    intro _ hw'; obtain ⟨w1, hw''⟩ := hw'; subst hw''
    go_wp2
    go_ret2
    exact ⟨rfl, (below_new0 _ _).trans ((gr_below _ _).mono (by simp))⟩
  have e5 : decide (Cal.dim y m < d) = false := by simpa using c5
  by_cases c6 : c < 0
  · have e6 : decide (c < 0) = true := by simpa using c6
    go_enter Tryd.func14, Tryd.ntmps14
    go_wp2
    refine wp_region_gr (by kernel_rfl) (by kernel_rfl) ?_
    repeat (go_big_quiet_step ((go_at_call 32; exact gr_call (days_ref _ _ _ (by omega) (by omega) (by omega) (by omega)))))
    refine wpQuiet_nil ?_
    intro _ hw'; obtain ⟨w1, hw''⟩ := hw'; subst hw''
    go_wp2
    go_ret2
    exact ⟨rfl, (below_new0 _ _).trans ((gr_below _ _).mono (by simp))⟩
  have e6 : decide (c < 0) = false := by simpa using c6
  by_cases c7 : 1439 < c
  · have e7 : decide (1439 < c) = true := by simpa using c7
    go_enter Tryd.func14, Tryd.ntmps14
    go_wp2
    refine wp_region_gr (by kernel_rfl) (by kernel_rfl) ?_
    repeat (go_big_quiet_step ((go_at_call 32; exact gr_call (days_ref _ _ _ (by omega) (by omega) (by omega) (by omega)))))
    refine wpQuiet_nil ?_
    intro _ hw'; obtain ⟨w1, hw''⟩ := hw'; subst hw''
    go_wp2
    go_ret2
    exact ⟨rfl, (below_new0 _ _).trans ((gr_below _ _).mono (by simp))⟩
  have e7 : decide (1439 < c) = false := by simpa using c7
  exfalso
  have := (Cal.vd_iff (y := y) (m := m) (d := d) (c := c)).2 (by omega)
  simp [hv] at this

set_option maxHeartbeats 1000000 in
theorem minute_ref_yes (y m d c : Int) (w : World) (hv : Cal.vd y m d c = true) :
    Calls Tryd.prog 14 #[.agg #[.int .i64 y, .int .i64 m, .int .i64 d], .int .i64 c] w fun e w' => e = .returned (.tuple #[.int .i64 ((Cal.dby y + Cal.cum y m + d - 1) * 1440 + c), .int .i64 0]) ∧ Below w.heap.size w w' := by
  obtain ⟨h1, h2, h3, h4, h5, h6, h7, h8⟩ := Cal.vd_iff.1 hv
  clear hv
  have d0 : decide (y < 2000) = false := by simp; omega
  have d1 : decide (2099 < y) = false := by simp; omega
  have d2 : decide (m < 1) = false := by simp; omega
  have d3 : decide (12 < m) = false := by simp; omega
  have d4 : decide (d < 1) = false := by simp; omega
  have d5 : decide (Cal.dim y m < d) = false := by simp; omega
  have d6 : decide (c < 0) = false := by simp; omega
  have d7 : decide (1439 < c) = false := by simp; omega
  have hd := Cal.dim_bd y m
  have hcb := Cal.cum_bd y m h3 h4
  go_enter Tryd.func14, Tryd.ntmps14
  go_wp2
  refine wp_region_gr (by kernel_rfl) (by kernel_rfl) ?_
  repeat (go_big_quiet_step ((go_at_call 32; exact gr_call (days_ref _ _ _ (by omega) (by omega) (by omega) (by omega)))))
  refine wpQuiet_nil ?_
  intro _ hw'; obtain ⟨w1, hw''⟩ := hw'; subst hw''
  clear d0 d1 d2 d3 d4 d5 d6 d7
  have hB := gr_below (w.alloc (.cells #[.int .i64 y, .int .i64 m, .int .i64 d] 23)) w1
  generalize gr (w.alloc (.cells #[.int .i64 y, .int .i64 m, .int .i64 d] 23)) w1 = w2 at *
  obtain ⟨hB, f0, f1, f2⟩ := date_keep (hB.mono (by simp)) (Below.refl _ _)
  go_wp2_with fail
  refine (before_ref _ _ _ _ (by omega) (by omega) (by omega) (by omega) (by omega) (by omega)).mono ?_
  rintro e w3 ⟨rfl, hb3⟩
  obtain ⟨hB3, g0, g1, g2⟩ := date_keep hB hb3
  clear hB f0 f1 f2 hb3
  go_wp2
  go_loopw [6, 7] (fun n i wr => ∃ k : Int, 2000 ≤ k ∧ k ≤ y ∧ i = .int .i64 k ∧ n = .int .i64 (Cal.dby k + Cal.cum y m + d - 1) ∧ Below (w.heap.size + 1) (w.alloc (.cells #[.int .i64 y, .int .i64 m, .int .i64 d] 23)) wr) (fun _ i _ => (2099 - intOf i).toNat)
  case atStart => exact ⟨2000, by omega, h1, rfl, by rw [Cal.dby_0, Int.zero_add], hB3⟩
  case round =>
    obtain ⟨k, hk1, hk2, rfl, rfl, hb⟩ := hrel
    have hc := Cal.dby_bd k hk1 (by omega)
    have hk := Cal.dim_bd k 2
    obtain ⟨_, f0, f1, f2⟩ := date_keep hb (Below.refl _ _)
    by_cases hlt : k < y
    · have hs := Lib.hid (Cal.dby_year k)
      go_wp2_with (go_at_call 34; refine (yearDays_ref _ _ (by omega) (by omega)).mono ?_; rintro e w1 ⟨rfl, hb1⟩)
      go_roundw
      case rel => exact ⟨k + 1, by omega, by omega, by go_num, by rw [hs.out]; go_num, (date_keep hb hb1).1⟩
      case measure => simp [intOf]; omega
    · obtain rfl : k = y := by omega
      go_wp2
      go_ret2
      exact ⟨ret_int2 (by omega) rfl, (below_new0 _ _).trans (hb.mono (by omega))⟩
end Go.Proofs.YtdemfbaaimockaaDoor
