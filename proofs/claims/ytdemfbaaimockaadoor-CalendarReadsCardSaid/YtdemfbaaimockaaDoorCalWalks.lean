/-
  Contracts of the calendar's small functions, of the program and of the reference: what each returns, for every argument in its range. Conditions: those typed in each theorem.
-/
import Derived.Test.YtdemfbaaimockaaDoorBase
import Derived.Test.YtdemfbaaimockaaDoorCalMath
namespace Go.Proofs.YtdemfbaaimockaaDoor
open Go.RowKit

theorem length_any (y m : Int) (w : World) (hy : 0 ≤ y) (hy2 : y ≤ 3000) :
    Calls Tryd.prog 30 #[.int .i64 y, .int .i64 m] w fun e w' => e = .returned (.int .i64 (Cal.dim y m)) ∧ w = w' := by
  go_enter Tryd.func30, Tryd.ntmps30
  go_wp2
  all_goals
    go_ret
    refine ⟨ret_int ?_, rfl⟩
    simp_all [Cal.dim]

theorem before_any (y : Int) (w : World) (hy : 2000 ≤ y) (hy2 : y ≤ 3000) :
    Calls Tryd.prog 31 #[.int .i64 y] w fun e w' => e = .returned (.int .i64 (Cal.dby y)) ∧ w = w' := by
  go_enter Tryd.func31, Tryd.ntmps31
  go_wp2
  go_ret
  exact ⟨rfl, rfl⟩

/-- an instant -/
def instB (n : Int) : Bool := decide (0 ≤ n ∧ n ≤ 52595999)
theorem instB_iff {n : Int} : instB n = true ↔ 0 ≤ n ∧ n ≤ 52595999 := by simp [instB]

theorem instant_any (n : Int) (w : World) :
    Calls Tryd.prog 35 #[.int .i64 n] w fun e w' => e = .returned (.bool (instB n)) ∧ w = w' := by
  go_enter Tryd.func35, Tryd.ntmps35
  go_wp2
  all_goals go_ret
  all_goals exact ⟨ret_bool (by rw [Bool.eq_iff_iff]; simp [instB]; omega), rfl⟩
theorem instant_ref (n : Int) (w : World) :
    Calls Tryd.prog 36 #[.int .i64 n] w fun e w' => e = .returned (.bool (instB n)) ∧ w = w' := by
  go_enter Tryd.func36, Tryd.ntmps36
  go_wp2
  all_goals go_ret
  all_goals exact ⟨ret_bool (by rw [Bool.eq_iff_iff]; simp [instB]; omega), rfl⟩

set_option maxHeartbeats 1600000 in
theorem days_ref (y m : Int) (w : World) (hy : 2000 ≤ y) (hy2 : y ≤ 2099) (h1 : 1 ≤ m) (h2 : m ≤ 12) :
    Calls Tryd.prog 32 #[.int .i64 y, .int .i64 m] w fun e w' => e = .returned (.int .i64 (Cal.dim y m)) ∧ Below w.heap.size w w' := by
  rcases Cal.twelve h1 h2 with rfl | rfl | rfl | rfl | rfl | rfl | rfl | rfl | rfl | rfl | rfl | rfl
  all_goals
    go_enter Tryd.func32, Tryd.ntmps32
    go_wp2
  all_goals go_ret
  all_goals refine ⟨ret_int ?_, (Below.refl _ _).alloc (Nat.le_refl _) _⟩
  all_goals (simp_all [Cal.dim] <;> omega)

/-- the day of the week of an instant -/
theorem weekday_yes (n : Int) (w : World) (h : instB n = true) :
    Calls Tryd.prog 17 #[.int .i64 n] w fun e w' => e = .returned (.tuple #[.int .i64 ((n / 1440 + 5) % 7 + 1), .int .i64 0]) ∧ w = w' := by
  obtain ⟨h1, h2⟩ := instB_iff.1 h
  go_enter Tryd.func17, Tryd.ntmps17
  go_wp2_with (go_at_call 35; refine (instant_any _ _).mono ?_; rintro e w' ⟨rfl, rfl⟩)
  go_ret2
  exact ⟨rfl, rfl⟩
theorem weekday_no (n : Int) (w : World) (h : instB n = false) :
    Calls Tryd.prog 17 #[.int .i64 n] w fun e w' => e = .returned (.tuple #[.int .i64 0, .int .i64 2]) ∧ w = w' := by
  go_enter Tryd.func17, Tryd.ntmps17
  go_wp2_with (go_at_call 35; refine (instant_any _ _).mono ?_; rintro e w' ⟨rfl, rfl⟩)
  go_ret2
  exact ⟨rfl, rfl⟩


theorem weekday_ref_yes (n : Int) (w : World) (h : instB n = true) :
    Calls Tryd.prog 18 #[.int .i64 n] w fun e w' => e = .returned (.tuple #[.int .i64 ((n / 1440 + 5) % 7 + 1), .int .i64 0]) ∧ w = w' := by
  obtain ⟨h1, h2⟩ := instB_iff.1 h
  go_enter Tryd.func18, Tryd.ntmps18
  go_wp2_with (go_at_call 36; refine (instant_ref _ _).mono ?_; rintro e w' ⟨rfl, rfl⟩)
  go_ret2
  exact ⟨rfl, rfl⟩
theorem weekday_ref_no (n : Int) (w : World) (h : instB n = false) :
    Calls Tryd.prog 18 #[.int .i64 n] w fun e w' => e = .returned (.tuple #[.int .i64 0, .int .i64 2]) ∧ w = w' := by
  go_enter Tryd.func18, Tryd.ntmps18
  go_wp2_with (go_at_call 36; refine (instant_ref _ _).mono ?_; rintro e w' ⟨rfl, rfl⟩)
  go_ret2
  exact ⟨rfl, rfl⟩
end Go.Proofs.YtdemfbaaimockaaDoor
