/-
  The numbers' sanity check: two thirds. Conditions: those typed in each theorem.
  The numbers' sanity check: two thirds written out. Conditions: those typed in each theorem.
  The numbers' sanity check. Conditions: those typed in each theorem.
-/
import Derived.Test.YtlkfnpmcihfjmaaGreatDoorEvag
import Derived.Test.YtlkfnpmcihfjmaaGreatDoorShelf

namespace Go.Proofs.YtlkfnpmcihfjmaaGreatDoor
open Go.RowKit

theorem itoa_67 (w : World) : Calls Tryz.prog 105 #[.int .i64 67] w fun e w' => e = .returned (.string ⟨#[54, 55]⟩) ∧ w = w' := by
  refine (Tryz.strconv_Itoa_small 67 (by omega) w).mono ?_
  rintro e w' ⟨rfl, rfl⟩
  rw [show Lib.decDigits 67 = [54, 55] by simp [Lib.decDigits]]
  exact ⟨rfl, rfl⟩

theorem round_23 : Num.redN (rndQ 2 3 (10 ^ 2)) (10 ^ 2) = 67 ∧ Num.redD (rndQ 2 3 (10 ^ 2)) (10 ^ 2) = 100 ∧ Num.redE (rndQ 2 3 (10 ^ 2)) (10 ^ 2) = 0 := by decide

end Go.Proofs.YtlkfnpmcihfjmaaGreatDoor

namespace Go.Proofs.YtlkfnpmcihfjmaaGreatDoor
open Go.RowKit

theorem itoa_d (n : Nat) (c : UInt8) (w : World) (h : Lib.decDigits n = [c]) (hn : n < 100) : Calls Tryz.prog 105 #[.int .i64 n] w fun e w' => e = .returned (.string ⟨#[c]⟩) ∧ w = w' := by
  refine (Tryz.strconv_Itoa_small n hn w).mono ?_
  rintro e w' ⟨rfl, rfl⟩
  rw [h]
  exact ⟨rfl, rfl⟩

theorem pow_mod3 (k : Nat) (h : k ≤ 9) : ((10 : Int) ^ k % 3 == 0) = false := by
  have : k = 0 ∨ k = 1 ∨ k = 2 ∨ k = 3 ∨ k = 4 ∨ k = 5 ∨ k = 6 ∨ k = 7 ∨ k = 8 ∨ k = 9 := by omega
  rcases this with rfl | rfl | rfl | rfl | rfl | rfl | rfl | rfl | rfl | rfl <;> decide

end Go.Proofs.YtlkfnpmcihfjmaaGreatDoor

namespace Go.Proofs.YtlkfnpmcihfjmaaGreatDoor
open Go.RowKit

theorem make_23 : mkN 2 3 = 2 ∧ mkD 2 3 = 3 ∧ mkE 2 3 = 0 := by decide
theorem valid_23 (w : World) : Calls Tryz.prog 81 #[.agg #[.int .i64 2, .int .i64 3]] w fun e w' => e = .returned (.bool true) ∧ Below w.heap.size w w' := by
  have := valid_any 2 3 w (by omega) (by omega)
  rw [show Num.val 2 3 = true by decide] at this
  exact this

end Go.Proofs.YtlkfnpmcihfjmaaGreatDoor
