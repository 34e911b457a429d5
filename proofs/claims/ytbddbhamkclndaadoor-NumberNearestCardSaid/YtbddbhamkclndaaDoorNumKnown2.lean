/-
  The numbers' sanity check: two thirds written out. Conditions: those typed in each theorem.
-/
import Derived.Test.YtbddbhamkclndaaDoorNumKnown
namespace Go.Proofs.YtbddbhamkclndaaDoor
open Go.RowKit

theorem itoa_d (n : Nat) (c : UInt8) (w : World) (h : Lib.decDigits n = [c]) (hn : n < 100) : Calls Tryd.prog 53 #[.int .i64 n] w fun e w' => e = .returned (.string ⟨#[c]⟩) ∧ w = w' := by
  refine (Tryd.strconv_Itoa_small n hn w).mono ?_
  rintro e w' ⟨rfl, rfl⟩
  rw [h]
  exact ⟨rfl, rfl⟩

theorem pow_mod3 (k : Nat) (h : k ≤ 9) : ((10 : Int) ^ k % 3 == 0) = false := by
  have : k = 0 ∨ k = 1 ∨ k = 2 ∨ k = 3 ∨ k = 4 ∨ k = 5 ∨ k = 6 ∨ k = 7 ∨ k = 8 ∨ k = 9 := by omega
  rcases this with rfl | rfl | rfl | rfl | rfl | rfl | rfl | rfl | rfl | rfl <;> decide

set_option maxHeartbeats 1000000 in
theorem format_23 (w : World) :
    Calls Tryd.prog 21 #[.agg #[.int .i64 2, .int .i64 3]] w fun e w' => e = .returned (.string ⟨#[50, 47, 51]⟩) ∧ Below w.heap.size w w' := by
  go_enter Tryd.func21, Tryd.ntmps21
  go_wp2_with fail
  refine (valid_any 2 3 _ (by omega) (by omega)).mono ?_
  rintro e w1 ⟨rfl, hb1⟩
  rw [show Num.val 2 3 = true by decide]
  go_wp2_with fail
  obtain ⟨f0, f1⟩ := ((Known.made w 23 #[.int .i64 2, .int .i64 3]).on hb1).two
  have hb := (below_new0 w _).then_ hb1
  go_loopg [3] 11 (fun g s3 wr => ∃ k : Nat, k ≤ 10 ∧ 10 - k < g ∧ s3 = .int .i64 k ∧ w1 = wr)
  case atStart => exact ⟨0, by omega, by omega, rfl, rfl⟩
  case round =>
    obtain ⟨k, hk, hg, rfl, rfl⟩ := hrel
    by_cases h : k ≤ 9
    · have hm := pow_mod3 k h
      obtain ⟨p1, p2⟩ := pow_bd k h
      have hp : ∀ w, Calls Tryd.prog 51 #[.int .i64 k] w fun e w' => e = .returned (.int .i64 (10 ^ k)) ∧ w = w' := fun w => power_any k w h
      generalize (10 : Int) ^ k = P at *
      go_wp2_with fail
      refine (hp _).mono ?_
      rintro e w2 ⟨rfl, rfl⟩
      go_wp2_with fail
      go_roundg (10 - k)
      case measure => omega
      case rel => exact ⟨k + 1, by omega, by omega, rfl, rfl⟩
    · obtain rfl : k = 10 := by omega
      have I2 : ∀ w, Calls Tryd.prog 53 #[.int .i64 2] w fun e w' => e = .returned (.string ⟨#[50]⟩) ∧ w = w' := fun w => itoa_d 2 50 w (by simp [Lib.decDigits]) (by omega)
      have I3 : ∀ w, Calls Tryd.prog 53 #[.int .i64 3] w fun e w' => e = .returned (.string ⟨#[51]⟩) ∧ w = w' := fun w => itoa_d 3 51 w (by simp [Lib.decDigits]) (by omega)
      have hlt := ((Known.made w 23 #[.int .i64 2, .int .i64 3]).on hb1).lt
      go_wp2_with fail
      refine wp_region_gr (by kernel_rfl) (by kernel_rfl) ?_
      repeat (go_big_quiet_step (first | (go_at_call 53; with_reducible exact gr_same (I2 _)) | (go_at_call 53; with_reducible exact gr_same (I3 _))))
      refine wpQuiet_nil ?_
      intro _ hw'; obtain ⟨w5, hw''⟩ := hw'; subst hw''
      have hB := gr_below w1 w5
      generalize gr w1 w5 = w4 at *
      go_wp2
      have hx : ((⟨#[50]⟩ : ByteArray) ++ ⟨#[47]⟩ ++ ⟨#[51]⟩) = ⟨#[50, 47, 51]⟩ := by rfl
      rw [hx]
      go_ret
      exact ⟨rfl, hb.then_ hB⟩
end Go.Proofs.YtbddbhamkclndaaDoor
