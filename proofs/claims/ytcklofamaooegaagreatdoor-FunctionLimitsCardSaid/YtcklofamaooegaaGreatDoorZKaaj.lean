/-
  The claim's own texts, packed. Conditions: those typed in each theorem.
-/
import Derived.Test.YtcklofamaooegaaGreatDoorZKaai
set_option maxHeartbeats 4000000
set_option maxRecDepth 10000
set_option linter.unusedVariables false
namespace Go.Proofs.YtcklofamaooegaaGreatDoor
open Go.RowKit
theorem floorP_no (a b : Int) (w : World) (i1 : I64 a) (i2 : I64 b) (v1 : Num.val a b = false) :
  Calls Tryz.prog 174 #[.agg #[.int .i64 a, .int .i64 b]] w fun e w' => e = .returned (.tuple #[.int .i64 0, .int .i64 7]) ∧ Below w.heap.size w w' := by
 go_enter Tryz.func174, Tryz.ntmps174
 go_wp2_with fail
 refine (valid_any a b _ i1 i2).mono ?_
 rintro e w1 ⟨rfl, hb1⟩
 rw [v1]
 have hb := (below_new0 w _).then_ hb1
 obtain ⟨f0, f1⟩ := ((Known.made w 50 #[.int .i64 a, .int .i64 b]).on hb1).two
 go_wp2
 go_ret2
 exact ⟨rfl, hb⟩
theorem floorP_ok (a b : Int) (w : World) (i1 : I64 a) (i2 : I64 b) (v1 : Num.val a b = true) :
  Calls Tryz.prog 174 #[.agg #[.int .i64 a, .int .i64 b]] w fun e w' => e = .returned (.tuple #[.int .i64 (a / b), .int .i64 0]) ∧ Below w.heap.size w w' := by
 obtain ⟨k1, k2, k3, k4, k5⟩ := Num.val_iff.1 v1
 have hf := floor_tdiv a b (by omega)
 have hm := Int.mul_tdiv_add_tmod a b
 have ht := tmod_bd a b (by omega)
 have hz : (b == 0) = false := by simp; omega
 have hd : -1000000000 ≤ a.tdiv b ∧ a.tdiv b ≤ 1000000000 := by
  have h1 := Int.natAbs_tdiv a b
  have h2 : a.natAbs.div b.natAbs ≤ a.natAbs := Nat.div_le_self _ _
  rw [← h1] at h2
  omega
 clear hm
 by_cases h : a.tmod b < 0
 ·have h' : decide (a.tmod b < 0) = true := by simpa using h
  rw [if_pos h] at hf
  rw [hf]
  clear hf
  go_enter Tryz.func174, Tryz.ntmps174
  go_wp2_with fail
  refine (valid_any a b _ i1 i2).mono ?_
  rintro e w1 ⟨rfl, hb1⟩
  rw [v1]
  have hb := (below_new0 w _).then_ hb1
  obtain ⟨f0, f1⟩ := ((Known.made w 50 #[.int .i64 a, .int .i64 b]).on hb1).two
  go_wp2
  go_ret2
  exact ⟨rfl, hb⟩
 ·have h' : decide (a.tmod b < 0) = false := by simpa using h
  rw [if_neg h] at hf
  rw [hf]
  clear hf
  go_enter Tryz.func174, Tryz.ntmps174
  go_wp2_with fail
  refine (valid_any a b _ i1 i2).mono ?_
  rintro e w1 ⟨rfl, hb1⟩
  rw [v1]
  have hb := (below_new0 w _).then_ hb1
  obtain ⟨f0, f1⟩ := ((Known.made w 50 #[.int .i64 a, .int .i64 b]).on hb1).two
  go_wp2
  go_ret2
  exact ⟨rfl, hb⟩
theorem floorR_ok (a b : Int) (w : World) (i1 : I64 a) (i2 : I64 b) (v1 : Num.val a b = true) :
  Calls Tryz.prog 206 #[.agg #[.int .i64 a, .int .i64 b]] w fun e w' => e = .returned (.tuple #[.int .i64 (a / b), .int .i64 0]) ∧ Below w.heap.size w w' := by
 obtain ⟨k1, k2, k3, k4, k5⟩ := Num.val_iff.1 v1
 have hp := modR_pos a b (by omega)
 have hbl : ∀ w, Calls Tryz.prog 237 #[.int .i64 a, .int .i64 b] w fun e w' => e = .returned (.int .i64 (a % b)) ∧ w = w' := fun w => hp ▸ below_any a b w (by omega) (by omega) (by omega)
 have hz : (b == 0) = false := by simp; omega
 have hm := Int.mul_ediv_add_emod a b
 have h1 := Int.emod_nonneg a (show b ≠ 0 by omega)
 have h2 := Int.emod_lt_of_pos a (show 0 < b by omega)
 have hq : (a - a % b).tdiv b = a / b := by
  rw [show a - a % b = b * (a / b) by omega]
  exact Int.mul_tdiv_cancel_left _ (by omega)
 have hd : -1000000000 ≤ a / b ∧ a / b ≤ 1000000000 := by
  exact ⟨(Int.le_ediv_iff_mul_le (by omega)).2 (by omega), Int.ediv_le_of_le_mul (by omega) (by omega)⟩
 clear hm
 go_enter Tryz.func206, Tryz.ntmps206
 go_wp2_with fail
 refine (validRef_any a b _ i1 i2).mono ?_
 rintro e w1 ⟨rfl, hb1⟩
 rw [v1]
 have hb := (below_new0 w _).then_ hb1
 obtain ⟨f0, f1⟩ := ((Known.made w 50 #[.int .i64 a, .int .i64 b]).on hb1).two
 go_wp2_with fail
 have hlt2 := ((Known.made w 50 #[.int .i64 a, .int .i64 b]).on hb1).lt
 refine wp_region_gr (by kernel_rfl) (by kernel_rfl) ?_
 repeat (go_big_quiet_step ((go_at_call 237; exact gr_same (hbl _))))
 refine wpQuiet_nil ?_
 intro _ hw'; obtain ⟨w5, hw''⟩ := hw'; subst hw''
 have hB := gr_below w1 w5
 generalize gr w1 w5 = w4 at *
 go_wp2
 go_ret2
 exact ⟨rfl, hb.then_ hB⟩
end Go.Proofs.YtcklofamaooegaaGreatDoor
namespace Go.Proofs.YtcklofamaooegaaGreatDoor
open Num (val red)
def Small (a b : Int) : Prop := val a b = true ∧ -1999 ≤ a ∧ a ≤ 1999 ∧ 1 ≤ b ∧ b ≤ 1024
theorem val_pos {a b : Int} (v : val a b = true) : b ≠ 0 ∧ 1 ≤ b := by have := Num.val_iff.1 v; omega
end Go.Proofs.YtcklofamaooegaaGreatDoor
