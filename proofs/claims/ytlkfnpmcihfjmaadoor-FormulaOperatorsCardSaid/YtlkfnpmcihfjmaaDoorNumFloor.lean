/-
  The remainder with the divisor's sign, and Floor, by the program and by the reference. Conditions: those typed in each theorem.
-/
import Derived.Test.YtlkfnpmcihfjmaaDoorNumCmp
namespace Go.Proofs.YtlkfnpmcihfjmaaDoor
open Go.RowKit

/-- the remainder with the divisor's sign -/
def modR (x y : Int) : Int := if x.tmod y ≠ 0 ∧ (x.tmod y < 0 ↔ ¬ y < 0) then x.tmod y + y else x.tmod y

theorem tmod_bd (x y : Int) (hy : y ≠ 0) : max (x.tmod y) (-x.tmod y) < max y (-y) := by
  have h := Int.natAbs_tmod x y
  have h2 : x.natAbs % y.natAbs < y.natAbs := Nat.mod_lt _ (by omega)
  omega

set_option maxHeartbeats 1000000 in
theorem below_any (x y : Int) (w : World) (hy : y ≠ 0) (y1 : -2000000000000000000 ≤ y) (y2 : y ≤ 2000000000000000000) :
    Calls Tryd.prog 29 #[.int .i64 x, .int .i64 y] w fun e w' => e = .returned (.int .i64 (modR x y)) ∧ w = w' := by
  have hb := tmod_bd x y hy
  have hy' : (y == 0) = false := by simpa using hy
  have hm : modR x y = if x.tmod y ≠ 0 ∧ (x.tmod y < 0 ↔ ¬ y < 0) then x.tmod y + y else x.tmod y := rfl
  by_cases h0 : x.tmod y = 0
  · rw [if_neg (by simp [h0]), h0] at hm
    rw [hm]
    clear hm
    go_enter Tryd.func29, Tryd.ntmps29
    go_wp2
    all_goals (go_ret; exact ⟨rfl, rfl⟩)
  have h0' : (x.tmod y == 0) = false := by simpa using h0
  by_cases h1 : x.tmod y < 0
  · have h1' : decide (x.tmod y < 0) = true := by simpa using h1
    by_cases h2 : y < 0
    · have h2' : decide (y < 0) = true := by simpa using h2
      rw [if_neg (by omega)] at hm
      rw [hm]
      clear hm
      go_enter Tryd.func29, Tryd.ntmps29
      go_wp2
      all_goals (go_ret; exact ⟨rfl, rfl⟩)
    · have h2' : decide (y < 0) = false := by simpa using h2
      rw [if_pos (by omega)] at hm
      rw [hm]
      clear hm
      go_enter Tryd.func29, Tryd.ntmps29
      go_wp2
      all_goals (go_ret; exact ⟨rfl, rfl⟩)
  · have h1' : decide (x.tmod y < 0) = false := by simpa using h1
    by_cases h2 : y < 0
    · have h2' : decide (y < 0) = true := by simpa using h2
      rw [if_pos (by omega)] at hm
      rw [hm]
      clear hm
      go_enter Tryd.func29, Tryd.ntmps29
      go_wp2
      all_goals (go_ret; exact ⟨rfl, rfl⟩)
    · have h2' : decide (y < 0) = false := by simpa using h2
      rw [if_neg (by omega)] at hm
      rw [hm]
      clear hm
      go_enter Tryd.func29, Tryd.ntmps29
      go_wp2
      all_goals (go_ret; exact ⟨rfl, rfl⟩)

/-- the quotient towards minus infinity, out of the one towards zero -/
theorem floor_tdiv (a b : Int) (hb : 0 < b) : a / b = if a.tmod b < 0 then a.tdiv b - 1 else a.tdiv b := by
  have h1 := Int.mul_tdiv_add_tmod a b
  have h2 := tmod_bd a b (by omega)
  by_cases h : a.tmod b < 0
  · rw [if_pos h]
    have e : a = (a.tmod b + b) + b * (a.tdiv b - 1) := by rw [Int.mul_sub, Int.mul_one]; omega
    have z : (a.tmod b + b) / b = 0 := Int.ediv_eq_zero_of_lt (by omega) (by omega)
    have k := Int.add_mul_ediv_left (a.tmod b + b) (a.tdiv b - 1) (show b ≠ 0 by omega)
    rw [← e, z] at k
    omega
  · rw [if_neg h]
    have z : (a.tmod b) / b = 0 := Int.ediv_eq_zero_of_lt (by omega) (by omega)
    have k := Int.add_mul_ediv_left (a.tmod b) (a.tdiv b) (show b ≠ 0 by omega)
    rw [show a.tmod b + b * a.tdiv b = a by omega, z] at k
    omega
theorem modR_pos (a b : Int) (hb : 0 < b) : modR a b = a % b := by
  have h1 := Int.mul_tdiv_add_tmod a b
  have h2 := floor_tdiv a b hb
  have h3 := Int.mul_ediv_add_emod a b
  have h4 := tmod_bd a b (by omega)
  unfold modR
  by_cases h : a.tmod b < 0
  · rw [if_pos h] at h2
    rw [h2, Int.mul_sub, Int.mul_one] at h3
    rw [if_pos ⟨by omega, by omega⟩]
    omega
  · rw [if_neg h] at h2
    rw [h2] at h3
    rw [if_neg (by omega)]
    omega
end Go.Proofs.YtlkfnpmcihfjmaaDoor
