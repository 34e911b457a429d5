/-
  Floor, by the program and by the reference. Conditions: those typed in each theorem.
-/
import Derived.Test.YtlkfnpmcihfjmaaDoorNumFloor
namespace Go.Proofs.YtlkfnpmcihfjmaaDoor
open Go.RowKit

set_option maxHeartbeats 1000000 in
theorem floorP_no (a b : Int) (w : World) (i1 : I64 a) (i2 : I64 b) (v1 : Num.val a b = false) :
    Calls Tryd.prog 63 #[.agg #[.int .i64 a, .int .i64 b]] w fun e w' => e = .returned (.tuple #[.int .i64 0, .int .i64 7]) ∧ Below w.heap.size w w' := by
  go_enter Tryd.func63, Tryd.ntmps63
  go_wp2_with fail
  refine (valid_any a b _ i1 i2).mono ?_
  rintro e w1 ⟨rfl, hb1⟩
  rw [v1]
  have hb := (below_new0 w _).then_ hb1
  obtain ⟨f0, f1⟩ := ((Known.made w 23 #[.int .i64 a, .int .i64 b]).on hb1).two
  go_wp2
  go_ret2
  exact ⟨rfl, hb⟩

set_option maxHeartbeats 1000000 in
theorem floorP_ok (a b : Int) (w : World) (i1 : I64 a) (i2 : I64 b) (v1 : Num.val a b = true) :
    Calls Tryd.prog 63 #[.agg #[.int .i64 a, .int .i64 b]] w fun e w' => e = .returned (.tuple #[.int .i64 (a / b), .int .i64 0]) ∧ Below w.heap.size w w' := by
  obtain ⟨k1, k2, k3, k4, k5⟩ := Num.val_iff.1 v1
  have hf := floor_tdiv a b (by omega)
  have hm := Int.mul_tdiv_add_tmod a b
  have ht := tmod_bd a b (by omega)
  have hz : (b == 0) = false := by simp; omega
  have hd : -1000000000 ≤ a.tdiv b ∧ a.tdiv b ≤ 1000000000 := by
    have h1 := Int.natAbs_tdiv a b
    have h2 : a.natAbs.div b.natAbs ≤ a.natAbs := Nat.div_le_self _ _
    rw [← h1] at h2
    omega
  clear hm
  by_cases h : a.tmod b < 0
  · have h' : decide (a.tmod b < 0) = true := by simpa using h
    rw [if_pos h] at hf
    rw [hf]
    clear hf
    go_enter Tryd.func63, Tryd.ntmps63
    go_wp2_with fail
    refine (valid_any a b _ i1 i2).mono ?_
    rintro e w1 ⟨rfl, hb1⟩
    rw [v1]
    have hb := (below_new0 w _).then_ hb1
    obtain ⟨f0, f1⟩ := ((Known.made w 23 #[.int .i64 a, .int .i64 b]).on hb1).two
    go_wp2
    go_ret2
    exact ⟨rfl, hb⟩
  · have h' : decide (a.tmod b < 0) = false := by simpa using h
    rw [if_neg h] at hf
    rw [hf]
    clear hf
    go_enter Tryd.func63, Tryd.ntmps63
    go_wp2_with fail
    refine (valid_any a b _ i1 i2).mono ?_
    rintro e w1 ⟨rfl, hb1⟩
    rw [v1]
    have hb := (below_new0 w _).then_ hb1
    obtain ⟨f0, f1⟩ := ((Known.made w 23 #[.int .i64 a, .int .i64 b]).on hb1).two
    go_wp2
    go_ret2
    exact ⟨rfl, hb⟩

end Go.Proofs.YtlkfnpmcihfjmaaDoor
