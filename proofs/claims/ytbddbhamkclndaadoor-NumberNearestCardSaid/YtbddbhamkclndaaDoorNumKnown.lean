/-
  The numbers' sanity check: two thirds. Conditions: those typed in each theorem.
-/
import Derived.Test.YtbddbhamkclndaaDoorNumFloor2
import Derived.Test.YtbddbhamkclndaaDoorNumRound
import Derived.Test.YtbddbhamkclndaaDoorShelf
namespace Go.Proofs.YtbddbhamkclndaaDoor
open Go.RowKit

theorem itoa_67 (w : World) : Calls Tryd.prog 53 #[.int .i64 67] w fun e w' => e = .returned (.string ⟨#[54, 55]⟩) ∧ w = w' := by
  refine (Tryd.strconv_Itoa_small 67 (by omega) w).mono ?_
  rintro e w' ⟨rfl, rfl⟩
  rw [show Lib.decDigits 67 = [54, 55] by simp [Lib.decDigits]]
  exact ⟨rfl, rfl⟩

theorem repeat_one (s : ByteArray) (w : World) : Calls Tryd.prog 61 #[.string s, .int .i64 1] w fun e w' => e = .returned (.string s) ∧ w = w' := by
  go_enter Tryd.func61, Tryd.ntmps61
  go_wp2
  go_ret
  exact ⟨rfl, rfl⟩

theorem decimal_67 (w : World) :
    Calls Tryd.prog 50 #[.int .i64 67, .int .i64 2] w fun e w' => e = .returned (.string ⟨#[48, 46, 54, 55]⟩) ∧ Below w.heap.size w w' := by
  go_enter Tryd.func50, Tryd.ntmps50
  go_wp2_with fail
  refine (size_any 67 _ (by omega) (by omega)).mono ?_
  rintro e w1 ⟨rfl, rfl⟩
  go_wp2_with fail
  refine (itoa_67 _).mono ?_
  rintro e w1 ⟨rfl, rfl⟩
  go_wp2_with fail
  refine (repeat_one _ _).mono ?_
  rintro e w1 ⟨rfl, rfl⟩
  go_wp2_with fail
  all_goals (try go_region)
  all_goals (try go_wp2_with fail)
  have hx : (((⟨#[48]⟩ : ByteArray) ++ ⟨#[54, 55]⟩).extract 0 1 ++ ⟨#[46]⟩ ++ ((⟨#[48]⟩ : ByteArray) ++ ⟨#[54, 55]⟩).extract 1 3) = ⟨#[48, 46, 54, 55]⟩ := by rfl
  rw [hx]
  go_ret
  exact ⟨rfl, (Below.refl _ _).drew⟩

theorem round_23 : Num.redN (rndQ 2 3 (10 ^ 2)) (10 ^ 2) = 67 ∧ Num.redD (rndQ 2 3 (10 ^ 2)) (10 ^ 2) = 100 ∧ Num.redE (rndQ 2 3 (10 ^ 2)) (10 ^ 2) = 0 := by decide

set_option maxHeartbeats 1000000 in
theorem fixed_23 (w : World) :
    Calls Tryd.prog 19 #[.agg #[.int .i64 2, .int .i64 3], .int .i64 2] w fun e w' => e = .returned (.tuple #[.string ⟨#[48, 46, 54, 55]⟩, .int .i64 0]) ∧ Below w.heap.size w w' := by
  obtain ⟨r1, r2, r3⟩ := round_23
  go_enter Tryd.func19, Tryd.ntmps19
  go_wp2_with fail
  refine (roundP_ok 2 3 2 _ (by unfold I64; omega) (by unfold I64; omega) (by decide) (by omega)).mono ?_
  rintro e w1 ⟨rfl, hb1⟩
  rw [r1, r2, r3]
  go_wp2_with fail
  have hp : ∀ w, Calls Tryd.prog 51 #[.int .i64 2] w fun e w' => e = .returned (.int .i64 100) ∧ w = w' := fun w => power_any 2 w (by omega)
  obtain ⟨f0, f1⟩ := (Known.made w1 23 #[.int .i64 67, .int .i64 100]).two
  have hz : w1.heap.size < (w1.alloc (.cells #[.int .i64 67, .int .i64 100] 23)).heap.size := by simp
  refine wp_region_gr (by kernel_rfl) (by kernel_rfl) ?_
  repeat (go_big_quiet_step (first | (go_at_call 51; exact gr_same (hp _)) | (go_at_call 50; exact gr_call (decimal_67 _))))
  refine wpQuiet_nil ?_
  intro _ hw'; obtain ⟨w5, hw''⟩ := hw'; subst hw''
  have hB := gr_below (w1.alloc (.cells #[.int .i64 67, .int .i64 100] 23)) w5
  generalize gr (w1.alloc (.cells #[.int .i64 67, .int .i64 100] 23)) w5 = w4 at *
  go_wp2
  go_ret2
  exact ⟨rfl, ((below_new0 w _).then_ hb1).then_ ((below_new0 w1 _).then_ hB)⟩
end Go.Proofs.YtbddbhamkclndaaDoor
