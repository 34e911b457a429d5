/-
  Valid and Make, by the program and by the reference. Conditions: those typed in each theorem.
-/
import Derived.Test.YtlkfnpmcihfjmaaDoorNumRed
namespace Go.Proofs.YtlkfnpmcihfjmaaDoor
open Go.RowKit

def inV (n : Int) : Bool := decide (-1000000000 ≤ n ∧ n ≤ 1000000000)
theorem inV_iff {n : Int} : inV n = true ↔ (-1000000000 ≤ n ∧ n ≤ 1000000000) := by simp [inV]
theorem inV_no {n : Int} : inV n = false ↔ ¬ (-1000000000 ≤ n ∧ n ≤ 1000000000) := by simp [inV]
theorem inside_any (n : Int) (w : World) :
    Calls Tryd.prog 84 #[.int .i64 n] w fun e w' => e = .returned (.bool (inV n)) ∧ w = w' := by
  by_cases h1 : -1000000000 ≤ n
  · by_cases h2 : n ≤ 1000000000
    · rw [inV_iff.2 ⟨h1, h2⟩]
      go_enter Tryd.func84, Tryd.ntmps84
      go_wp2
      go_ret
      exact ⟨rfl, rfl⟩
    · rw [inV_no.2 (by omega)]
      go_enter Tryd.func84, Tryd.ntmps84
      go_wp2
      go_ret
      exact ⟨rfl, rfl⟩
  · rw [inV_no.2 (by omega)]
    go_enter Tryd.func84, Tryd.ntmps84
    go_wp2
    go_ret
    exact ⟨rfl, rfl⟩

/-- the parts of 'valid', as the code asks for them -/
theorem val_gc (n d : Int) (h1 : inV n = true) (h2 : inV d = true) (h3 : 1 ≤ d) : Num.val n d = (Num.gc (max n (-n)) d == 1) := by
  rw [Num.gc_amount, Bool.eq_iff_iff, Num.val_iff]
  have := inV_iff.1 h1
  have := inV_iff.1 h2
  simp [Num.gc]
  omega

set_option maxHeartbeats 1000000 in
theorem valid_any (n d : Int) (w : World) (n1 : -9223372036854775808 ≤ n ∧ n ≤ 9223372036854775807) (d1 : -9223372036854775808 ≤ d ∧ d ≤ 9223372036854775807) :
    Calls Tryd.prog 83 #[.agg #[.int .i64 n, .int .i64 d]] w fun e w' => e = .returned (.bool (Num.val n d)) ∧ Below w.heap.size w w' := by
  cases c1 : inV n
  · have hr : Num.val n d = false := by rw [← Bool.not_eq_true, Num.val_iff]; have := inV_no.1 c1; omega
    have I1 : ∀ w, Calls Tryd.prog 84 #[.int .i64 n] w fun e w' => e = .returned (.bool false) ∧ w = w' := fun w => c1 ▸ inside_any n w
    rw [hr]
    go_enter Tryd.func83, Tryd.ntmps83
    go_wp2
    obtain ⟨f0, f1⟩ := (Known.made w 23 #[.int .i64 n, .int .i64 d]).two
    have hz : w.heap.size < (w.alloc (.cells #[.int .i64 n, .int .i64 d] 23)).heap.size := by simp
    refine wp_region_gr (by kernel_rfl) (by kernel_rfl) ?_
    repeat (go_big_quiet_step (first | (go_at_call 84; with_reducible exact gr_same (I1 _)) | (go_at_call 82; exact gr_same (size_any _ _ (by omega) (by omega))) | (go_at_call 81; exact gr_call (divisor_any _ _ _ (by omega) (by omega) (by omega) (by omega)))))
    refine wpQuiet_nil ?_
    intro _ hw'; obtain ⟨w1, hw''⟩ := hw'; subst hw''
    have hB := gr_below (w.alloc (.cells #[.int .i64 n, .int .i64 d] 23)) w1
    generalize gr (w.alloc (.cells #[.int .i64 n, .int .i64 d] 23)) w1 = w2 at *
    go_wp2
    go_ret
    exact ⟨rfl, (below_new0 w _).then_ hB⟩
  have I1 : ∀ w, Calls Tryd.prog 84 #[.int .i64 n] w fun e w' => e = .returned (.bool true) ∧ w = w' := fun w => c1 ▸ inside_any n w
  cases c2 : inV d
  · have hr : Num.val n d = false := by rw [← Bool.not_eq_true, Num.val_iff]; have := inV_no.1 c2; omega
    have I2 : ∀ w, Calls Tryd.prog 84 #[.int .i64 d] w fun e w' => e = .returned (.bool false) ∧ w = w' := fun w => c2 ▸ inside_any d w
    rw [hr]
    go_enter Tryd.func83, Tryd.ntmps83
    go_wp2
    obtain ⟨f0, f1⟩ := (Known.made w 23 #[.int .i64 n, .int .i64 d]).two
    have hz : w.heap.size < (w.alloc (.cells #[.int .i64 n, .int .i64 d] 23)).heap.size := by simp
    refine wp_region_gr (by kernel_rfl) (by kernel_rfl) ?_
    repeat (go_big_quiet_step (first | (go_at_call 84; with_reducible exact gr_same (I1 _)) | (go_at_call 84; with_reducible exact gr_same (I2 _)) | (go_at_call 82; exact gr_same (size_any _ _ (by omega) (by omega))) | (go_at_call 81; exact gr_call (divisor_any _ _ _ (by omega) (by omega) (by omega) (by omega)))))
    refine wpQuiet_nil ?_
    intro _ hw'; obtain ⟨w1, hw''⟩ := hw'; subst hw''
    have hB := gr_below (w.alloc (.cells #[.int .i64 n, .int .i64 d] 23)) w1
    generalize gr (w.alloc (.cells #[.int .i64 n, .int .i64 d] 23)) w1 = w2 at *
    go_wp2
    go_ret
    exact ⟨rfl, (below_new0 w _).then_ hB⟩
  have I2 : ∀ w, Calls Tryd.prog 84 #[.int .i64 d] w fun e w' => e = .returned (.bool true) ∧ w = w' := fun w => c2 ▸ inside_any d w
  by_cases c3 : 1 ≤ d
  · have hr := val_gc n d c1 c2 c3
    have c3' : decide (1 ≤ d) = true := by simpa using c3
    have k1 := inV_iff.1 c1
    have k2 := inV_iff.1 c2
    rw [hr]
    go_enter Tryd.func83, Tryd.ntmps83
    go_wp2
    obtain ⟨f0, f1⟩ := (Known.made w 23 #[.int .i64 n, .int .i64 d]).two
    have hz : w.heap.size < (w.alloc (.cells #[.int .i64 n, .int .i64 d] 23)).heap.size := by simp
    refine wp_region_gr (by kernel_rfl) (by kernel_rfl) ?_
    repeat (go_big_quiet_step (first | (go_at_call 84; with_reducible exact gr_same (I1 _)) | (go_at_call 84; with_reducible exact gr_same (I2 _)) | (go_at_call 82; exact gr_same (size_any _ _ (by omega) (by omega))) | (go_at_call 81; exact gr_call (divisor_any _ _ _ (by omega) (by omega) (by omega) (by omega)))))
    refine wpQuiet_nil ?_
    intro _ hw'; obtain ⟨w1, hw''⟩ := hw'; subst hw''
    have hB := gr_below (w.alloc (.cells #[.int .i64 n, .int .i64 d] 23)) w1
    generalize gr (w.alloc (.cells #[.int .i64 n, .int .i64 d] 23)) w1 = w2 at *
    go_wp2
    go_ret
    exact ⟨rfl, (below_new0 w _).then_ hB⟩
  · have hr : Num.val n d = false := by rw [← Bool.not_eq_true, Num.val_iff]; omega
    have c3' : decide (1 ≤ d) = false := by simpa using c3
    rw [hr]
    go_enter Tryd.func83, Tryd.ntmps83
    go_wp2
    obtain ⟨f0, f1⟩ := (Known.made w 23 #[.int .i64 n, .int .i64 d]).two
    have hz : w.heap.size < (w.alloc (.cells #[.int .i64 n, .int .i64 d] 23)).heap.size := by simp
    refine wp_region_gr (by kernel_rfl) (by kernel_rfl) ?_
    repeat (go_big_quiet_step (first | (go_at_call 84; with_reducible exact gr_same (I1 _)) | (go_at_call 84; with_reducible exact gr_same (I2 _)) | (go_at_call 82; exact gr_same (size_any _ _ (by omega) (by omega))) | (go_at_call 81; exact gr_call (divisor_any _ _ _ (by omega) (by omega) (by omega) (by omega)))))
    refine wpQuiet_nil ?_
    intro _ hw'; obtain ⟨w1, hw''⟩ := hw'; subst hw''
    have hB := gr_below (w.alloc (.cells #[.int .i64 n, .int .i64 d] 23)) w1
    generalize gr (w.alloc (.cells #[.int .i64 n, .int .i64 d] 23)) w1 = w2 at *
    go_wp2
    go_ret
    exact ⟨rfl, (below_new0 w _).then_ hB⟩

set_option maxHeartbeats 1000000 in
theorem validRef_any (n d : Int) (w : World) (n1 : -9223372036854775808 ≤ n ∧ n ≤ 9223372036854775807) (d1 : -9223372036854775808 ≤ d ∧ d ≤ 9223372036854775807) :
    Calls Tryd.prog 27 #[.agg #[.int .i64 n, .int .i64 d]] w fun e w' => e = .returned (.bool (Num.val n d)) ∧ Below w.heap.size w w' := by
  by_cases c1 : 1 ≤ d
  rotate_left
  · have c1' : decide (1 ≤ d) = false := by simpa using c1
    have hr : Num.val n d = false := by rw [← Bool.not_eq_true, Num.val_iff]; omega
    rw [hr]
    go_enter Tryd.func27, Tryd.ntmps27
    go_wp2
    obtain ⟨f0, f1⟩ := (Known.made w 23 #[.int .i64 n, .int .i64 d]).two
    have hz : w.heap.size < (w.alloc (.cells #[.int .i64 n, .int .i64 d] 23)).heap.size := by simp
    refine wp_region_gr (by kernel_rfl) (by kernel_rfl) ?_
    repeat (go_big_quiet_step (first | (go_at_call 45; exact gr_same (abs_any _ _ (by omega) (by omega))) | (go_at_call 44; exact gr_call (gcd_any _ _ _ (by omega) (by omega) (by omega) (by omega)))))
    refine wpQuiet_nil ?_
    intro _ hw'; obtain ⟨w1, hw''⟩ := hw'; subst hw''
    have hB := gr_below (w.alloc (.cells #[.int .i64 n, .int .i64 d] 23)) w1
    generalize gr (w.alloc (.cells #[.int .i64 n, .int .i64 d] 23)) w1 = w2 at *
    go_wp2
    go_ret
    exact ⟨rfl, (below_new0 w _).then_ hB⟩
  have c1' : decide (1 ≤ d) = true := by simpa using c1
  by_cases c2 : d ≤ 1000000000
  rotate_left
  · have c2' : decide (d ≤ 1000000000) = false := by simpa using c2
    have hr : Num.val n d = false := by rw [← Bool.not_eq_true, Num.val_iff]; omega
    rw [hr]
    go_enter Tryd.func27, Tryd.ntmps27
    go_wp2
    obtain ⟨f0, f1⟩ := (Known.made w 23 #[.int .i64 n, .int .i64 d]).two
    have hz : w.heap.size < (w.alloc (.cells #[.int .i64 n, .int .i64 d] 23)).heap.size := by simp
    refine wp_region_gr (by kernel_rfl) (by kernel_rfl) ?_
    repeat (go_big_quiet_step (first | (go_at_call 45; exact gr_same (abs_any _ _ (by omega) (by omega))) | (go_at_call 44; exact gr_call (gcd_any _ _ _ (by omega) (by omega) (by omega) (by omega)))))
    refine wpQuiet_nil ?_
    intro _ hw'; obtain ⟨w1, hw''⟩ := hw'; subst hw''
    have hB := gr_below (w.alloc (.cells #[.int .i64 n, .int .i64 d] 23)) w1
    generalize gr (w.alloc (.cells #[.int .i64 n, .int .i64 d] 23)) w1 = w2 at *
    go_wp2
    go_ret
    exact ⟨rfl, (below_new0 w _).then_ hB⟩
  have c2' : decide (d ≤ 1000000000) = true := by simpa using c2
  by_cases c3 : -1000000000 ≤ n
  rotate_left
  · have c3' : decide (-1000000000 ≤ n) = false := by simpa using c3
    have hr : Num.val n d = false := by rw [← Bool.not_eq_true, Num.val_iff]; omega
    rw [hr]
    go_enter Tryd.func27, Tryd.ntmps27
    go_wp2
    obtain ⟨f0, f1⟩ := (Known.made w 23 #[.int .i64 n, .int .i64 d]).two
    have hz : w.heap.size < (w.alloc (.cells #[.int .i64 n, .int .i64 d] 23)).heap.size := by simp
    refine wp_region_gr (by kernel_rfl) (by kernel_rfl) ?_
    repeat (go_big_quiet_step (first | (go_at_call 45; exact gr_same (abs_any _ _ (by omega) (by omega))) | (go_at_call 44; exact gr_call (gcd_any _ _ _ (by omega) (by omega) (by omega) (by omega)))))
    refine wpQuiet_nil ?_
    intro _ hw'; obtain ⟨w1, hw''⟩ := hw'; subst hw''
    have hB := gr_below (w.alloc (.cells #[.int .i64 n, .int .i64 d] 23)) w1
    generalize gr (w.alloc (.cells #[.int .i64 n, .int .i64 d] 23)) w1 = w2 at *
    go_wp2
    go_ret
    exact ⟨rfl, (below_new0 w _).then_ hB⟩
  have c3' : decide (-1000000000 ≤ n) = true := by simpa using c3
  by_cases c4 : n ≤ 1000000000
  rotate_left
  · have c4' : decide (n ≤ 1000000000) = false := by simpa using c4
    have hr : Num.val n d = false := by rw [← Bool.not_eq_true, Num.val_iff]; omega
    rw [hr]
    go_enter Tryd.func27, Tryd.ntmps27
    go_wp2
    obtain ⟨f0, f1⟩ := (Known.made w 23 #[.int .i64 n, .int .i64 d]).two
    have hz : w.heap.size < (w.alloc (.cells #[.int .i64 n, .int .i64 d] 23)).heap.size := by simp
    refine wp_region_gr (by kernel_rfl) (by kernel_rfl) ?_
    repeat (go_big_quiet_step (first | (go_at_call 45; exact gr_same (abs_any _ _ (by omega) (by omega))) | (go_at_call 44; exact gr_call (gcd_any _ _ _ (by omega) (by omega) (by omega) (by omega)))))
    refine wpQuiet_nil ?_
    intro _ hw'; obtain ⟨w1, hw''⟩ := hw'; subst hw''
    have hB := gr_below (w.alloc (.cells #[.int .i64 n, .int .i64 d] 23)) w1
    generalize gr (w.alloc (.cells #[.int .i64 n, .int .i64 d] 23)) w1 = w2 at *
    go_wp2
    go_ret
    exact ⟨rfl, (below_new0 w _).then_ hB⟩
  · have c4' : decide (n ≤ 1000000000) = true := by simpa using c4
    have hr := val_gc n d (inV_iff.2 ⟨c3, c4⟩) (inV_iff.2 ⟨by omega, c2⟩) c1
    rw [hr]
    go_enter Tryd.func27, Tryd.ntmps27
    go_wp2
    obtain ⟨f0, f1⟩ := (Known.made w 23 #[.int .i64 n, .int .i64 d]).two
    have hz : w.heap.size < (w.alloc (.cells #[.int .i64 n, .int .i64 d] 23)).heap.size := by simp
    refine wp_region_gr (by kernel_rfl) (by kernel_rfl) ?_
    repeat (go_big_quiet_step (first | (go_at_call 45; exact gr_same (abs_any _ _ (by omega) (by omega))) | (go_at_call 44; exact gr_call (gcd_any _ _ _ (by omega) (by omega) (by omega) (by omega)))))
    refine wpQuiet_nil ?_
    intro _ hw'; obtain ⟨w1, hw''⟩ := hw'; subst hw''
    have hB := gr_below (w.alloc (.cells #[.int .i64 n, .int .i64 d] 23)) w1
    generalize gr (w.alloc (.cells #[.int .i64 n, .int .i64 d] 23)) w1 = w2 at *
    go_wp2
    go_ret
    exact ⟨rfl, (below_new0 w _).then_ hB⟩
end Go.Proofs.YtlkfnpmcihfjmaaDoor
