/-
  The instant of a date and a clock, by the program. Conditions: those typed in each theorem.
-/
import Derived.Test.YtdemfbaaimockaaDoorBase
import Derived.Test.YtdemfbaaimockaaDoorCalWalks
namespace Go.Proofs.YtdemfbaaimockaaDoor
open Go.RowKit

set_option maxHeartbeats 4000000 in
theorem minute_no (y m d c : Int) (w : World) (hv : Cal.vd y m d c = false) :
    Calls Tryd.prog 13 #[.agg #[.int .i64 y, .int .i64 m, .int .i64 d], .int .i64 c] w fun e w' => e = .returned (.tuple #[.int .i64 0, .int .i64 2]) ∧ Below w.heap.size w w' := by
  by_cases c0 : y < 2000
  · have e0 : decide (y < 2000) = true := by simpa using c0
    go_enter Tryd.func13, Tryd.ntmps13
    go_wp2
    go_quiet ((go_at_call 30; exact quiet_id (length_any _ _ _ (by omega) (by omega))))
    go_wp2
    go_ret2
    exact ⟨rfl, below_new _ _ _⟩
  have e0 : decide (y < 2000) = false := by simpa using c0
  by_cases c1 : 2100 ≤ y
  · have e1 : decide (2100 ≤ y) = true := by simpa using c1
    go_enter Tryd.func13, Tryd.ntmps13
    go_wp2
    go_quiet ((go_at_call 30; exact quiet_id (length_any _ _ _ (by omega) (by omega))))
    go_wp2
    go_ret2
    exact ⟨rfl, below_new _ _ _⟩
  have e1 : decide (2100 ≤ y) = false := by simpa using c1
  by_cases c2 : m < 1
  · have e2 : decide (m < 1) = true := by simpa using c2
    go_enter Tryd.func13, Tryd.ntmps13
    go_wp2
    go_quiet ((go_at_call 30; exact quiet_id (length_any _ _ _ (by omega) (by omega))))
    go_wp2
    go_ret2
    exact ⟨rfl, below_new _ _ _⟩
  have e2 : decide (m < 1) = false := by simpa using c2
  by_cases c3 : 12 < m
  · have e3 : decide (12 < m) = true := by simpa using c3
    go_enter Tryd.func13, Tryd.ntmps13
    go_wp2
    go_quiet ((go_at_call 30; exact quiet_id (length_any _ _ _ (by omega) (by omega))))
    go_wp2
    go_ret2
    exact ⟨rfl, below_new _ _ _⟩
  have e3 : decide (12 < m) = false := by simpa using c3
  by_cases c4 : d < 1
  · have e4 : decide (d < 1) = true := by simpa using c4
    go_enter Tryd.func13, Tryd.ntmps13
    go_wp2
    go_quiet ((go_at_call 30; exact quiet_id (length_any _ _ _ (by omega) (by omega))))
    go_wp2
    go_ret2
    exact ⟨rfl, below_new _ _ _⟩
  have e4 : decide (d < 1) = false := by simpa using c4
  by_cases c5 : Cal.dim y m < d
  · have e5 : decide (Cal.dim y m < d) = true := by simpa using c5
    go_enter Tryd.func13, Tryd.ntmps13
    go_wp2
    go_quiet ((go_at_call 30; exact quiet_id (length_any _ _ _ (by omega) (by omega))))
    go_wp2
    go_ret2
    exact ⟨rfl, below_new _ _ _⟩
  have e5 : decide (Cal.dim y m < d) = false := by simpa using c5
  by_cases c6 : c < 0
  · have e6 : decide (c < 0) = true := by simpa using c6
    go_enter Tryd.func13, Tryd.ntmps13
    go_wp2
    go_quiet ((go_at_call 30; exact quiet_id (length_any _ _ _ (by omega) (by omega))))
    go_wp2
    go_ret2
    exact ⟨rfl, below_new _ _ _⟩
  have e6 : decide (c < 0) = false := by simpa using c6
  by_cases c7 : 1440 ≤ c
  · have e7 : decide (1440 ≤ c) = true := by simpa using c7
    go_enter Tryd.func13, Tryd.ntmps13
    go_wp2
    go_quiet ((go_at_call 30; exact quiet_id (length_any _ _ _ (by omega) (by omega))))
    go_wp2
    go_ret2
    exact ⟨rfl, below_new _ _ _⟩
  have e7 : decide (1440 ≤ c) = false := by simpa using c7
  exfalso
  have := (Cal.vd_iff (y := y) (m := m) (d := d) (c := c)).2 (by omega)
  simp [hv] at this

set_option maxHeartbeats 1000000 in
theorem minute_yes (y m d c : Int) (w : World) (hv : Cal.vd y m d c = true) :
    Calls Tryd.prog 13 #[.agg #[.int .i64 y, .int .i64 m, .int .i64 d], .int .i64 c] w fun e w' => e = .returned (.tuple #[.int .i64 ((Cal.dby y + Cal.cum y m + d - 1) * 1440 + c), .int .i64 0]) ∧ Below w.heap.size w w' := by
  obtain ⟨h1, h2, h3, h4, h5, h6, h7, h8⟩ := Cal.vd_iff.1 hv
  clear hv
  have d0 : decide (y < 2000) = false := by simp; omega
  have d1 : decide (2100 ≤ y) = false := by simp; omega
  have d2 : decide (m < 1) = false := by simp; omega
  have d3 : decide (12 < m) = false := by simp; omega
  have d4 : decide (d < 1) = false := by simp; omega
  have d5 : decide (Cal.dim y m < d) = false := by simp; omega
  have d6 : decide (c < 0) = false := by simp; omega
  have d7 : decide (1440 ≤ c) = false := by simp; omega
  have hd := Cal.dim_bd y m
  have hb := Cal.dby_bd y h1 (by omega)
  go_enter Tryd.func13, Tryd.ntmps13
  go_wp2
  go_quiet ((go_at_call 30; exact quiet_id (length_any _ _ _ (by omega) (by omega))))
  clear d0 d1 d2 d3 d4 d5 d6 d7
  go_wp2_with fail
  refine (before_any _ _ (by omega) (by omega)).mono ?_
  rintro e w' ⟨rfl, rfl⟩
  go_wp2
  go_loop [6, 7] (fun n i => ∃ k : Int, 1 ≤ k ∧ k ≤ m ∧ i = .int .i64 k ∧ n = .int .i64 (Cal.dby y + Cal.cum y k)) (fun _ i => (12 - intOf i).toNat)
  case atStart => exact ⟨1, by omega, h3, rfl, by rw [Cal.cum_one, Int.add_zero]⟩
  case round =>
    obtain ⟨k, hk1, hk2, rfl, rfl⟩ := hrel
    have hc := Cal.cum_bd y k hk1 (by omega)
    have hk := Cal.dim_bd y k
    by_cases hlt : k < m
    · have hs := Lib.hid (Cal.cum_succ y k hk1 (by omega))
      go_wp2_with (go_at_call 30; refine (length_any _ _ _ (by omega) (by omega)).mono ?_; rintro e w' ⟨rfl, rfl⟩)
      go_round
      case rel => exact ⟨k + 1, by omega, by omega, by go_num, by rw [hs.out]; go_num⟩
      case measure => simp [intOf]; omega
    · obtain rfl : k = m := by omega
      go_wp2
      go_ret2
      exact ⟨ret_int2 (by omega) rfl, below_new _ _ _⟩
end Go.Proofs.YtdemfbaaimockaaDoor
