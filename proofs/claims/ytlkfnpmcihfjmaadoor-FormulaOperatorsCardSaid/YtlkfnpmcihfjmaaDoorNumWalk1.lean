/-
  The small functions of the packages of numbers, the program's and the reference's. Conditions: those typed in each theorem.
-/
import Derived.Test.YtlkfnpmcihfjmaaDoorNumMath
import Derived.Deep.LoopGhost
import Derived.BigRegion
namespace Go.Proofs.YtlkfnpmcihfjmaaDoor
open Go.RowKit

theorem divisor_any (a b : Int) (w : World) (ha : 0 ≤ a) (hb : 0 ≤ b) (ha2 : a ≤ 9223372036854775807) (hb2 : b ≤ 9223372036854775807) :
    Calls Tryd.prog 81 #[.int .i64 a, .int .i64 b] w fun e w' => e = .returned (.int .i64 (Num.gc a b)) ∧ Below w.heap.size w w' := by
  go_enter Tryd.func81, Tryd.ntmps81
  go_wp2
  go_loopg [0, 1] (b.toNat + 1) (fun g s0 s1 wr => ∃ x y : Int, 0 ≤ x ∧ 0 ≤ y ∧ x ≤ 9223372036854775807 ∧ y ≤ 9223372036854775807 ∧ y.toNat < g ∧ Int.gcd x y = Int.gcd a b ∧ s0 = .int .i64 x ∧ s1 = .int .i64 y ∧ Below w.heap.size w wr)
  case atStart => exact ⟨a, b, ha, hb, ha2, hb2, by omega, rfl, rfl, rfl, Below.refl _ _⟩
  case round =>
    obtain ⟨x, y, hx, hy, hx2, hy2, hg, he, rfl, rfl, hal⟩ := hrel
    by_cases h0 : y = 0
    · subst h0
      have h1 : Num.gc a b = x := by unfold Num.gc; rw [← he, Int.gcd_zero_right]; omega
      rw [← h1]
      clear hx hx2 he
      go_wp2
      go_ret
      exact ⟨rfl, hal⟩
    · have h1 : (y != 0) = true := by simp; omega
      have h2 := Int.emod_nonneg x h0
      have h3 := Int.emod_lt_of_pos x (show 0 < y by omega)
      have h4 : x.tmod y = x % y := Int.tmod_eq_emod_of_nonneg hx
      go_wp2
      go_region
      all_goals (try go_wp2)
      all_goals (
        go_roundg ((x % y).toNat + 1)
        case measure => omega
        case rel => exact ⟨y, x % y, hy, h2, hy2, by omega, by omega, by rw [Int.gcd_comm, Num.gcd_mod hx hy, he], rfl, by first | rfl | rw [h4], hal.drew⟩)
theorem gcd_any (a b : Int) (w : World) (ha : 0 ≤ a) (hb : 0 ≤ b) (ha2 : a ≤ 9223372036854775807) (hb2 : b ≤ 9223372036854775807) :
    Calls Tryd.prog 44 #[.int .i64 a, .int .i64 b] w fun e w' => e = .returned (.int .i64 (Num.gc a b)) ∧ Below w.heap.size w w' := by
  go_enter Tryd.func44, Tryd.ntmps44
  go_wp2
  go_loopg [0, 1] (b.toNat + 1) (fun g s0 s1 wr => ∃ x y : Int, 0 ≤ x ∧ 0 ≤ y ∧ x ≤ 9223372036854775807 ∧ y ≤ 9223372036854775807 ∧ y.toNat < g ∧ Int.gcd x y = Int.gcd a b ∧ s0 = .int .i64 x ∧ s1 = .int .i64 y ∧ Below w.heap.size w wr)
  case atStart => exact ⟨a, b, ha, hb, ha2, hb2, by omega, rfl, rfl, rfl, Below.refl _ _⟩
  case round =>
    obtain ⟨x, y, hx, hy, hx2, hy2, hg, he, rfl, rfl, hal⟩ := hrel
    by_cases h0 : y = 0
    · subst h0
      have h1 : Num.gc a b = x := by unfold Num.gc; rw [← he, Int.gcd_zero_right]; omega
      rw [← h1]
      clear hx hx2 he
      go_wp2
      go_ret
      exact ⟨rfl, hal⟩
    · have h1 : decide (0 < y) = true := by simp; omega
      have h2 := Int.emod_nonneg x h0
      have h3 := Int.emod_lt_of_pos x (show 0 < y by omega)
      have h4 : x.tmod y = x % y := Int.tmod_eq_emod_of_nonneg hx
      go_wp2
      go_region
      all_goals (try go_wp2)
      all_goals (
        go_roundg ((x % y).toNat + 1)
        case measure => omega
        case rel => exact ⟨y, x % y, hy, h2, hy2, by omega, by omega, by rw [Int.gcd_comm, Num.gcd_mod hx hy, he], rfl, by first | rfl | rw [h4], hal.drew⟩)
theorem size_any (n : Int) (w : World) (h1 : -9223372036854775808 < n) (h2 : n ≤ 9223372036854775807) :
    Calls Tryd.prog 82 #[.int .i64 n] w fun e w' => e = .returned (.int .i64 (max n (-n))) ∧ w = w' := by
  by_cases h : n < 0
  · rw [show max n (-n) = -n by omega]
    go_enter Tryd.func82, Tryd.ntmps82
    go_wp2
    all_goals first | omega | (go_ret; exact ⟨rfl, rfl⟩)
  · rw [show max n (-n) = n by omega]
    go_enter Tryd.func82, Tryd.ntmps82
    go_wp2
    all_goals first | omega | (go_ret; exact ⟨rfl, rfl⟩)
theorem abs_any (n : Int) (w : World) (h1 : -9223372036854775808 < n) (h2 : n ≤ 9223372036854775807) :
    Calls Tryd.prog 45 #[.int .i64 n] w fun e w' => e = .returned (.int .i64 (max n (-n))) ∧ w = w' := by
  by_cases h : n < 0
  · rw [show max n (-n) = -n by omega]
    go_enter Tryd.func45, Tryd.ntmps45
    go_wp2
    go_ret
    exact ⟨rfl, rfl⟩
  · rw [show max n (-n) = n by omega]
    go_enter Tryd.func45, Tryd.ntmps45
    go_wp2
    go_ret
    exact ⟨rfl, rfl⟩
theorem pow_bd (k : Nat) (h : k ≤ 9) : 1 ≤ (10 : Int) ^ k ∧ (10 : Int) ^ k ≤ 1000000000 := by
  have : k = 0 ∨ k = 1 ∨ k = 2 ∨ k = 3 ∨ k = 4 ∨ k = 5 ∨ k = 6 ∨ k = 7 ∨ k = 8 ∨ k = 9 := by omega
  rcases this with rfl | rfl | rfl | rfl | rfl | rfl | rfl | rfl | rfl | rfl <;> decide
theorem power_any (k : Nat) (w : World) (h : k ≤ 9) :
    Calls Tryd.prog 60 #[.int .i64 k] w fun e w' => e = .returned (.int .i64 (10 ^ k)) ∧ w = w' := by
  go_enter Tryd.func60, Tryd.ntmps60
  go_wp2
  go_loopg [3, 5] (k + 1) (fun g s0 s1 wr => ∃ i : Nat, i ≤ k ∧ k - i < g ∧ s0 = .int .i64 (10 ^ i) ∧ s1 = .int .i64 i ∧ w = wr)
  case atStart => exact ⟨0, by omega, by omega, rfl, rfl, rfl⟩
  case round =>
    obtain ⟨i, hi, hg, rfl, rfl, rfl⟩ := hrel
    by_cases h0 : i < k
    · obtain ⟨b1, b2⟩ := pow_bd i (by omega)
      have e1 : (10 : Int) ^ (i + 1) = 10 ^ i * 10 := Int.pow_succ 10 i
      generalize (10 : Int) ^ i = P at *
      go_wp2
      go_roundg (k - i)
      case measure => omega
      case rel => exact ⟨i + 1, by omega, by omega, by rw [e1], rfl, rfl⟩
    · obtain rfl : i = k := by omega
      go_wp2
      go_ret
      exact ⟨rfl, rfl⟩
end Go.Proofs.YtlkfnpmcihfjmaaDoor
