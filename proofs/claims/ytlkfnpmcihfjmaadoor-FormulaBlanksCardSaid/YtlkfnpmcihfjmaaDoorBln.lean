/-
  formula.apply: an operator with two operands. Conditions: those typed in each theorem.
-/
import Derived.Test.YtlkfnpmcihfjmaaDoorBlm

namespace Go.Proofs.YtlkfnpmcihfjmaaDoor
open Go.RowKit
set_option linter.unusedVariables false

set_option maxRecDepth 10000 in
set_option maxHeartbeats 4000000 in
theorem apply_plus (a b c d : Int) (w : World) (i1 : I64 a) (i2 : I64 b) (i3 : I64 c) (i4 : I64 d)  :
    Calls Tryd.prog 43 #[.string ⟨#[43]⟩, .agg #[.int .i64 a, .int .i64 b], .agg #[.int .i64 c, .int .i64 d]] w fun e w' => e = .returned (.tuple #[.agg #[.int .i64 ((addV a b c d).1), .int .i64 ((addV a b c d).2.1)], .int .i64 ((addV a b c d).2.2)]) ∧ Below w.heap.size w w' := by
  have hC := cmp_any a b c d i1 i2 i3 i4
  unfold RetI at hC
  have hX := addP_any a b c d i1 i2 i3 i4
  unfold Ret args2 at hX
  generalize addV a b c d = R at *
  generalize cmpN a b c d = C at *
  go_enter Tryd.func43, Tryd.ntmps43
  go_wp2_with fail
  refine (hC _).mono ?_
  rintro e w1 ⟨rfl, hb1⟩
  change Below (W3 a b c d w).heap.size (W3 a b c d w) w1 at hb1
  have hb := (W3_below a b c d w).then_ hb1
  have KA := (W3_a a b c d w).on hb1
  have KB := (W3_b a b c d w).on hb1
  have KR := (W3_r a b c d w).on hb1
  have hl : w.heap.size ≤ w.heap.size + 1 + 1 := by omega
  obtain ⟨a10, a11⟩ := KA.two
  obtain ⟨b10, b11⟩ := KB.two
  go_wp2_with fail
  refine (hX _).mono ?_
  rintro e w2 ⟨rfl, hb2⟩
  replace hb := hb.then_ hb2
  replace KA := KA.on hb2
  replace KB := KB.on hb2
  replace KR := KR.on hb2
  clear a10 a11 b10 b11
  obtain ⟨a10, a11⟩ := KA.two
  obtain ⟨b10, b11⟩ := KB.two
  have q0 := KR.free 0
  have q1 := KR.free 1
  obtain ⟨r0, r1⟩ := KR.two
  have Kz : Known _ _ _ #[.int .i64 (R.1), .int .i64 (R.2.1)] := (KR.put 0 (.int .i64 (R.1))).put 1 (.int .i64 (R.2.1))
  obtain ⟨z0, z1⟩ := Kz.two
  go_wp2_with fail
  exact bodyPost_ret (v := .tuple #[.agg #[.int .i64 (R.1), .int .i64 (R.2.1)], .int .i64 (R.2.2)]) (by simp [results, Tryd.results43, go_sem, z0, z1]) rfl ⟨rfl, (hb.setCell (p := ⟨w.heap.size + 1 + 1, 0, none⟩) hl _).setCell (p := ⟨w.heap.size + 1 + 1, 1, none⟩) hl _⟩

set_option maxRecDepth 10000 in
set_option maxHeartbeats 4000000 in
theorem apply_minus (a b c d : Int) (w : World) (i1 : I64 a) (i2 : I64 b) (i3 : I64 c) (i4 : I64 d)  :
    Calls Tryd.prog 43 #[.string ⟨#[45]⟩, .agg #[.int .i64 a, .int .i64 b], .agg #[.int .i64 c, .int .i64 d]] w fun e w' => e = .returned (.tuple #[.agg #[.int .i64 ((subV a b c d).1), .int .i64 ((subV a b c d).2.1)], .int .i64 ((subV a b c d).2.2)]) ∧ Below w.heap.size w w' := by
  have hC := cmp_any a b c d i1 i2 i3 i4
  unfold RetI at hC
  have hX := subP_any a b c d i1 i2 i3 i4
  unfold Ret args2 at hX
  generalize subV a b c d = R at *
  generalize cmpN a b c d = C at *
  go_enter Tryd.func43, Tryd.ntmps43
  go_wp2_with fail
  refine (hC _).mono ?_
  rintro e w1 ⟨rfl, hb1⟩
  change Below (W3 a b c d w).heap.size (W3 a b c d w) w1 at hb1
  have hb := (W3_below a b c d w).then_ hb1
  have KA := (W3_a a b c d w).on hb1
  have KB := (W3_b a b c d w).on hb1
  have KR := (W3_r a b c d w).on hb1
  have hl : w.heap.size ≤ w.heap.size + 1 + 1 := by omega
  obtain ⟨a10, a11⟩ := KA.two
  obtain ⟨b10, b11⟩ := KB.two
  go_wp2_with fail
  refine (hX _).mono ?_
  rintro e w2 ⟨rfl, hb2⟩
  replace hb := hb.then_ hb2
  replace KA := KA.on hb2
  replace KB := KB.on hb2
  replace KR := KR.on hb2
  clear a10 a11 b10 b11
  obtain ⟨a10, a11⟩ := KA.two
  obtain ⟨b10, b11⟩ := KB.two
  have q0 := KR.free 0
  have q1 := KR.free 1
  obtain ⟨r0, r1⟩ := KR.two
  have Kz : Known _ _ _ #[.int .i64 (R.1), .int .i64 (R.2.1)] := (KR.put 0 (.int .i64 (R.1))).put 1 (.int .i64 (R.2.1))
  obtain ⟨z0, z1⟩ := Kz.two
  go_wp2_with fail
  exact bodyPost_ret (v := .tuple #[.agg #[.int .i64 (R.1), .int .i64 (R.2.1)], .int .i64 (R.2.2)]) (by simp [results, Tryd.results43, go_sem, z0, z1]) rfl ⟨rfl, (hb.setCell (p := ⟨w.heap.size + 1 + 1, 0, none⟩) hl _).setCell (p := ⟨w.heap.size + 1 + 1, 1, none⟩) hl _⟩

set_option maxRecDepth 10000 in
set_option maxHeartbeats 4000000 in
theorem apply_times (a b c d : Int) (w : World) (i1 : I64 a) (i2 : I64 b) (i3 : I64 c) (i4 : I64 d)  :
    Calls Tryd.prog 43 #[.string ⟨#[42]⟩, .agg #[.int .i64 a, .int .i64 b], .agg #[.int .i64 c, .int .i64 d]] w fun e w' => e = .returned (.tuple #[.agg #[.int .i64 ((mulV a b c d).1), .int .i64 ((mulV a b c d).2.1)], .int .i64 ((mulV a b c d).2.2)]) ∧ Below w.heap.size w w' := by
  have hC := cmp_any a b c d i1 i2 i3 i4
  unfold RetI at hC
  have hX := mulP_any a b c d i1 i2 i3 i4
  unfold Ret args2 at hX
  generalize mulV a b c d = R at *
  generalize cmpN a b c d = C at *
  go_enter Tryd.func43, Tryd.ntmps43
  go_wp2_with fail
  refine (hC _).mono ?_
  rintro e w1 ⟨rfl, hb1⟩
  change Below (W3 a b c d w).heap.size (W3 a b c d w) w1 at hb1
  have hb := (W3_below a b c d w).then_ hb1
  have KA := (W3_a a b c d w).on hb1
  have KB := (W3_b a b c d w).on hb1
  have KR := (W3_r a b c d w).on hb1
  have hl : w.heap.size ≤ w.heap.size + 1 + 1 := by omega
  obtain ⟨a10, a11⟩ := KA.two
  obtain ⟨b10, b11⟩ := KB.two
  go_wp2_with fail
  refine (hX _).mono ?_
  rintro e w2 ⟨rfl, hb2⟩
  replace hb := hb.then_ hb2
  replace KA := KA.on hb2
  replace KB := KB.on hb2
  replace KR := KR.on hb2
  clear a10 a11 b10 b11
  obtain ⟨a10, a11⟩ := KA.two
  obtain ⟨b10, b11⟩ := KB.two
  have q0 := KR.free 0
  have q1 := KR.free 1
  obtain ⟨r0, r1⟩ := KR.two
  have Kz : Known _ _ _ #[.int .i64 (R.1), .int .i64 (R.2.1)] := (KR.put 0 (.int .i64 (R.1))).put 1 (.int .i64 (R.2.1))
  obtain ⟨z0, z1⟩ := Kz.two
  go_wp2_with fail
  exact bodyPost_ret (v := .tuple #[.agg #[.int .i64 (R.1), .int .i64 (R.2.1)], .int .i64 (R.2.2)]) (by simp [results, Tryd.results43, go_sem, z0, z1]) rfl ⟨rfl, (hb.setCell (p := ⟨w.heap.size + 1 + 1, 0, none⟩) hl _).setCell (p := ⟨w.heap.size + 1 + 1, 1, none⟩) hl _⟩

set_option maxRecDepth 10000 in
set_option maxHeartbeats 4000000 in
theorem apply_over (a b c d : Int) (w : World) (i1 : I64 a) (i2 : I64 b) (i3 : I64 c) (i4 : I64 d)  :
    Calls Tryd.prog 43 #[.string ⟨#[47]⟩, .agg #[.int .i64 a, .int .i64 b], .agg #[.int .i64 c, .int .i64 d]] w fun e w' => e = .returned (.tuple #[.agg #[.int .i64 ((divV a b c d).1), .int .i64 ((divV a b c d).2.1)], .int .i64 ((divV a b c d).2.2)]) ∧ Below w.heap.size w w' := by
  have hC := cmp_any a b c d i1 i2 i3 i4
  unfold RetI at hC
  have hX := divP_any a b c d i1 i2 i3 i4
  unfold Ret args2 at hX
  generalize divV a b c d = R at *
  generalize cmpN a b c d = C at *
  go_enter Tryd.func43, Tryd.ntmps43
  go_wp2_with fail
  refine (hC _).mono ?_
  rintro e w1 ⟨rfl, hb1⟩
  change Below (W3 a b c d w).heap.size (W3 a b c d w) w1 at hb1
  have hb := (W3_below a b c d w).then_ hb1
  have KA := (W3_a a b c d w).on hb1
  have KB := (W3_b a b c d w).on hb1
  have KR := (W3_r a b c d w).on hb1
  have hl : w.heap.size ≤ w.heap.size + 1 + 1 := by omega
  obtain ⟨a10, a11⟩ := KA.two
  obtain ⟨b10, b11⟩ := KB.two
  go_wp2_with fail
  refine (hX _).mono ?_
  rintro e w2 ⟨rfl, hb2⟩
  replace hb := hb.then_ hb2
  replace KA := KA.on hb2
  replace KB := KB.on hb2
  replace KR := KR.on hb2
  clear a10 a11 b10 b11
  obtain ⟨a10, a11⟩ := KA.two
  obtain ⟨b10, b11⟩ := KB.two
  have q0 := KR.free 0
  have q1 := KR.free 1
  obtain ⟨r0, r1⟩ := KR.two
  have Kz : Known _ _ _ #[.int .i64 (R.1), .int .i64 (R.2.1)] := (KR.put 0 (.int .i64 (R.1))).put 1 (.int .i64 (R.2.1))
  obtain ⟨z0, z1⟩ := Kz.two
  go_wp2_with fail
  exact bodyPost_ret (v := .tuple #[.agg #[.int .i64 (R.1), .int .i64 (R.2.1)], .int .i64 (R.2.2)]) (by simp [results, Tryd.results43, go_sem, z0, z1]) rfl ⟨rfl, (hb.setCell (p := ⟨w.heap.size + 1 + 1, 0, none⟩) hl _).setCell (p := ⟨w.heap.size + 1 + 1, 1, none⟩) hl _⟩

set_option maxRecDepth 10000 in
set_option maxHeartbeats 4000000 in
theorem apply_mod (a b c d : Int) (w : World) (i1 : I64 a) (i2 : I64 b) (i3 : I64 c) (i4 : I64 d)  :
    Calls Tryd.prog 43 #[.string ⟨#[109, 111, 100]⟩, .agg #[.int .i64 a, .int .i64 b], .agg #[.int .i64 c, .int .i64 d]] w fun e w' => e = .returned (.tuple #[.agg #[.int .i64 ((modV a b c d).1), .int .i64 ((modV a b c d).2.1)], .int .i64 ((modV a b c d).2.2)]) ∧ Below w.heap.size w w' := by
  have hC := cmp_any a b c d i1 i2 i3 i4
  unfold RetI at hC
  have hX := modP_any a b c d i1 i2 i3 i4
  unfold Ret args2 at hX
  generalize modV a b c d = R at *
  generalize cmpN a b c d = C at *
  go_enter Tryd.func43, Tryd.ntmps43
  go_wp2_with fail
  refine (hC _).mono ?_
  rintro e w1 ⟨rfl, hb1⟩
  change Below (W3 a b c d w).heap.size (W3 a b c d w) w1 at hb1
  have hb := (W3_below a b c d w).then_ hb1
  have KA := (W3_a a b c d w).on hb1
  have KB := (W3_b a b c d w).on hb1
  have KR := (W3_r a b c d w).on hb1
  have hl : w.heap.size ≤ w.heap.size + 1 + 1 := by omega
  obtain ⟨a10, a11⟩ := KA.two
  obtain ⟨b10, b11⟩ := KB.two
  go_wp2_with fail
  refine (hX _).mono ?_
  rintro e w2 ⟨rfl, hb2⟩
  replace hb := hb.then_ hb2
  replace KA := KA.on hb2
  replace KB := KB.on hb2
  replace KR := KR.on hb2
  clear a10 a11 b10 b11
  obtain ⟨a10, a11⟩ := KA.two
  obtain ⟨b10, b11⟩ := KB.two
  have q0 := KR.free 0
  have q1 := KR.free 1
  obtain ⟨r0, r1⟩ := KR.two
  have Kz : Known _ _ _ #[.int .i64 (R.1), .int .i64 (R.2.1)] := (KR.put 0 (.int .i64 (R.1))).put 1 (.int .i64 (R.2.1))
  obtain ⟨z0, z1⟩ := Kz.two
  go_wp2_with fail
  exact bodyPost_ret (v := .tuple #[.agg #[.int .i64 (R.1), .int .i64 (R.2.1)], .int .i64 (R.2.2)]) (by simp [results, Tryd.results43, go_sem, z0, z1]) rfl ⟨rfl, (hb.setCell (p := ⟨w.heap.size + 1 + 1, 0, none⟩) hl _).setCell (p := ⟨w.heap.size + 1 + 1, 1, none⟩) hl _⟩

set_option maxRecDepth 10000 in
set_option maxHeartbeats 4000000 in
theorem apply_hat (a b c d : Int) (w : World) (i1 : I64 a) (i2 : I64 b) (i3 : I64 c) (i4 : I64 d) (v : Num.val a b = true) :
    Calls Tryd.prog 43 #[.string ⟨#[94]⟩, .agg #[.int .i64 a, .int .i64 b], .agg #[.int .i64 c, .int .i64 d]] w fun e w' => e = .returned (.tuple #[.agg #[.int .i64 ((raiseV a b c d).1), .int .i64 ((raiseV a b c d).2.1)], .int .i64 ((raiseV a b c d).2.2)]) ∧ Below w.heap.size w w' := by
  have hC := cmp_any a b c d i1 i2 i3 i4
  unfold RetI at hC
  have hX := raise_any a b c d v
  unfold Ret args2 at hX
  generalize raiseV a b c d = R at *
  generalize cmpN a b c d = C at *
  go_enter Tryd.func43, Tryd.ntmps43
  go_wp2_with fail
  refine (hC _).mono ?_
  rintro e w1 ⟨rfl, hb1⟩
  change Below (W3 a b c d w).heap.size (W3 a b c d w) w1 at hb1
  have hb := (W3_below a b c d w).then_ hb1
  have KA := (W3_a a b c d w).on hb1
  have KB := (W3_b a b c d w).on hb1
  have KR := (W3_r a b c d w).on hb1
  have hl : w.heap.size ≤ w.heap.size + 1 + 1 := by omega
  obtain ⟨a10, a11⟩ := KA.two
  obtain ⟨b10, b11⟩ := KB.two
  go_wp2_with fail
  refine (hX _).mono ?_
  rintro e w2 ⟨rfl, hb2⟩
  replace hb := hb.then_ hb2
  replace KA := KA.on hb2
  replace KB := KB.on hb2
  replace KR := KR.on hb2
  clear a10 a11 b10 b11
  obtain ⟨a10, a11⟩ := KA.two
  obtain ⟨b10, b11⟩ := KB.two
  have q0 := KR.free 0
  have q1 := KR.free 1
  obtain ⟨r0, r1⟩ := KR.two
  have Kz : Known _ _ _ #[.int .i64 (R.1), .int .i64 (R.2.1)] := (KR.put 0 (.int .i64 (R.1))).put 1 (.int .i64 (R.2.1))
  obtain ⟨z0, z1⟩ := Kz.two
  go_wp2_with fail
  exact bodyPost_ret (v := .tuple #[.agg #[.int .i64 (R.1), .int .i64 (R.2.1)], .int .i64 (R.2.2)]) (by simp [results, Tryd.results43, go_sem, z0, z1]) rfl ⟨rfl, (hb.setCell (p := ⟨w.heap.size + 1 + 1, 0, none⟩) hl _).setCell (p := ⟨w.heap.size + 1 + 1, 1, none⟩) hl _⟩

set_option maxRecDepth 10000 in
set_option maxHeartbeats 4000000 in
theorem apply_round (a b c d : Int) (w : World) (i1 : I64 a) (i2 : I64 b) (i3 : I64 c) (i4 : I64 d) (h : wholeB c d 0 9 = true) :
    Calls Tryd.prog 43 #[.string ⟨#[114, 111, 117, 110, 100]⟩, .agg #[.int .i64 a, .int .i64 b], .agg #[.int .i64 c, .int .i64 d]] w fun e w' => e = .returned (.tuple #[.agg #[.int .i64 ((roundV a b c).1), .int .i64 ((roundV a b c).2.1)], .int .i64 ((roundV a b c).2.2)]) ∧ Below w.heap.size w w' := by
  have hC := cmp_any a b c d i1 i2 i3 i4
  unfold RetI at hC
  have hW := fun w => whole_any c d 0 9 w
  rw [h] at hW
  have hX := roundP_any a b c i1 i2
  unfold Ret at hX
  generalize roundV a b c = R at *
  generalize cmpN a b c d = C at *
  go_enter Tryd.func43, Tryd.ntmps43
  go_wp2_with fail
  refine (hC _).mono ?_
  rintro e w1 ⟨rfl, hb1⟩
  change Below (W3 a b c d w).heap.size (W3 a b c d w) w1 at hb1
  have hb := (W3_below a b c d w).then_ hb1
  have KA := (W3_a a b c d w).on hb1
  have KB := (W3_b a b c d w).on hb1
  have KR := (W3_r a b c d w).on hb1
  have hl : w.heap.size ≤ w.heap.size + 1 + 1 := by omega
  obtain ⟨a10, a11⟩ := KA.two
  obtain ⟨b10, b11⟩ := KB.two
  go_wp2_with fail
  refine (hW _).mono ?_
  rintro e w2 ⟨rfl, hb2⟩
  replace hb := hb.then_ hb2
  replace KA := KA.on hb2
  replace KB := KB.on hb2
  replace KR := KR.on hb2
  clear a10 a11 b10 b11
  obtain ⟨a10, a11⟩ := KA.two
  obtain ⟨b10, b11⟩ := KB.two
  go_wp2_with fail
  refine (hX _).mono ?_
  rintro e w3 ⟨rfl, hb3⟩
  replace hb := hb.then_ hb3
  replace KA := KA.on hb3
  replace KB := KB.on hb3
  replace KR := KR.on hb3
  clear a10 a11 b10 b11
  obtain ⟨a10, a11⟩ := KA.two
  obtain ⟨b10, b11⟩ := KB.two
  have q0 := KR.free 0
  have q1 := KR.free 1
  obtain ⟨r0, r1⟩ := KR.two
  have Kz : Known _ _ _ #[.int .i64 (R.1), .int .i64 (R.2.1)] := (KR.put 0 (.int .i64 (R.1))).put 1 (.int .i64 (R.2.1))
  obtain ⟨z0, z1⟩ := Kz.two
  go_wp2_with fail
  exact bodyPost_ret (v := .tuple #[.agg #[.int .i64 (R.1), .int .i64 (R.2.1)], .int .i64 (R.2.2)]) (by simp [results, Tryd.results43, go_sem, z0, z1]) rfl ⟨rfl, (hb.setCell (p := ⟨w.heap.size + 1 + 1, 0, none⟩) hl _).setCell (p := ⟨w.heap.size + 1 + 1, 1, none⟩) hl _⟩

set_option maxRecDepth 10000 in
set_option maxHeartbeats 4000000 in
theorem apply_round_no (a b c d : Int) (w : World) (i1 : I64 a) (i2 : I64 b) (i3 : I64 c) (i4 : I64 d) (h : wholeB c d 0 9 = false) :
    Calls Tryd.prog 43 #[.string ⟨#[114, 111, 117, 110, 100]⟩, .agg #[.int .i64 a, .int .i64 b], .agg #[.int .i64 c, .int .i64 d]] w fun e w' => e = .returned (.tuple #[.agg #[.int .i64 (0), .int .i64 (0)], .int .i64 (2)]) ∧ Below w.heap.size w w' := by
  have hC := cmp_any a b c d i1 i2 i3 i4
  unfold RetI at hC
  have hW := fun w => whole_any c d 0 9 w
  rw [h] at hW
  generalize cmpN a b c d = C at *
  go_enter Tryd.func43, Tryd.ntmps43
  go_wp2_with fail
  refine (hC _).mono ?_
  rintro e w1 ⟨rfl, hb1⟩
  change Below (W3 a b c d w).heap.size (W3 a b c d w) w1 at hb1
  have hb := (W3_below a b c d w).then_ hb1
  have KA := (W3_a a b c d w).on hb1
  have KB := (W3_b a b c d w).on hb1
  have KR := (W3_r a b c d w).on hb1
  have hl : w.heap.size ≤ w.heap.size + 1 + 1 := by omega
  obtain ⟨a10, a11⟩ := KA.two
  obtain ⟨b10, b11⟩ := KB.two
  go_wp2_with fail
  refine (hW _).mono ?_
  rintro e w2 ⟨rfl, hb2⟩
  replace hb := hb.then_ hb2
  replace KA := KA.on hb2
  replace KB := KB.on hb2
  replace KR := KR.on hb2
  clear a10 a11 b10 b11
  obtain ⟨a10, a11⟩ := KA.two
  obtain ⟨b10, b11⟩ := KB.two
  have q0 := KR.free 0
  have q1 := KR.free 1
  obtain ⟨r0, r1⟩ := KR.two
  have Kz : Known _ _ _ #[.int .i64 (0), .int .i64 (0)] := (KR.put 0 (.int .i64 (0))).put 1 (.int .i64 (0))
  obtain ⟨z0, z1⟩ := Kz.two
  go_wp2_with fail
  exact bodyPost_ret (v := .tuple #[.agg #[.int .i64 (0), .int .i64 (0)], .int .i64 (2)]) (by simp [results, Tryd.results43, go_sem, z0, z1]) rfl ⟨rfl, (hb.setCell (p := ⟨w.heap.size + 1 + 1, 0, none⟩) hl _).setCell (p := ⟨w.heap.size + 1 + 1, 1, none⟩) hl _⟩

set_option maxRecDepth 10000 in
set_option maxHeartbeats 4000000 in
theorem apply_eq_true (a b c d : Int) (w : World) (i1 : I64 a) (i2 : I64 b) (i3 : I64 c) (i4 : I64 d) (g : (cmpN a b c d == 0) = true) :
    Calls Tryd.prog 43 #[.string ⟨#[61]⟩, .agg #[.int .i64 a, .int .i64 b], .agg #[.int .i64 c, .int .i64 d]] w fun e w' => e = .returned (.tuple #[.agg #[.int .i64 (1), .int .i64 (1)], .int .i64 (0)]) ∧ Below w.heap.size w w' := by
  have hC := cmp_any a b c d i1 i2 i3 i4
  unfold RetI at hC
  generalize cmpN a b c d = C at *
  have hT := truth_true
  go_enter Tryd.func43, Tryd.ntmps43
  go_wp2_with fail
  refine (hC _).mono ?_
  rintro e w1 ⟨rfl, hb1⟩
  change Below (W3 a b c d w).heap.size (W3 a b c d w) w1 at hb1
  have hb := (W3_below a b c d w).then_ hb1
  have KA := (W3_a a b c d w).on hb1
  have KB := (W3_b a b c d w).on hb1
  have KR := (W3_r a b c d w).on hb1
  have hl : w.heap.size ≤ w.heap.size + 1 + 1 := by omega
  obtain ⟨a10, a11⟩ := KA.two
  obtain ⟨b10, b11⟩ := KB.two
  go_wp2_with fail
  refine (hT _).mono ?_
  rintro e w2 ⟨rfl, hb2⟩
  replace hb := hb.then_ hb2
  replace KA := KA.on hb2
  replace KB := KB.on hb2
  replace KR := KR.on hb2
  clear a10 a11 b10 b11
  obtain ⟨a10, a11⟩ := KA.two
  obtain ⟨b10, b11⟩ := KB.two
  have q0 := KR.free 0
  have q1 := KR.free 1
  obtain ⟨r0, r1⟩ := KR.two
  have Kz : Known _ _ _ #[.int .i64 (1), .int .i64 (1)] := (KR.put 0 (.int .i64 (1))).put 1 (.int .i64 (1))
  obtain ⟨z0, z1⟩ := Kz.two
  go_wp2_with fail
  exact bodyPost_ret (v := .tuple #[.agg #[.int .i64 (1), .int .i64 (1)], .int .i64 (0)]) (by simp [results, Tryd.results43, go_sem, z0, z1]) rfl ⟨rfl, (hb.setCell (p := ⟨w.heap.size + 1 + 1, 0, none⟩) hl _).setCell (p := ⟨w.heap.size + 1 + 1, 1, none⟩) hl _⟩

set_option maxRecDepth 10000 in
set_option maxHeartbeats 4000000 in
theorem apply_eq_false (a b c d : Int) (w : World) (i1 : I64 a) (i2 : I64 b) (i3 : I64 c) (i4 : I64 d) (g : (cmpN a b c d == 0) = false) :
    Calls Tryd.prog 43 #[.string ⟨#[61]⟩, .agg #[.int .i64 a, .int .i64 b], .agg #[.int .i64 c, .int .i64 d]] w fun e w' => e = .returned (.tuple #[.agg #[.int .i64 (0), .int .i64 (1)], .int .i64 (0)]) ∧ Below w.heap.size w w' := by
  have hC := cmp_any a b c d i1 i2 i3 i4
  unfold RetI at hC
  generalize cmpN a b c d = C at *
  have hT := truth_false
  go_enter Tryd.func43, Tryd.ntmps43
  go_wp2_with fail
  refine (hC _).mono ?_
  rintro e w1 ⟨rfl, hb1⟩
  change Below (W3 a b c d w).heap.size (W3 a b c d w) w1 at hb1
  have hb := (W3_below a b c d w).then_ hb1
  have KA := (W3_a a b c d w).on hb1
  have KB := (W3_b a b c d w).on hb1
  have KR := (W3_r a b c d w).on hb1
  have hl : w.heap.size ≤ w.heap.size + 1 + 1 := by omega
  obtain ⟨a10, a11⟩ := KA.two
  obtain ⟨b10, b11⟩ := KB.two
  go_wp2_with fail
  refine (hT _).mono ?_
  rintro e w2 ⟨rfl, hb2⟩
  replace hb := hb.then_ hb2
  replace KA := KA.on hb2
  replace KB := KB.on hb2
  replace KR := KR.on hb2
  clear a10 a11 b10 b11
  obtain ⟨a10, a11⟩ := KA.two
  obtain ⟨b10, b11⟩ := KB.two
  have q0 := KR.free 0
  have q1 := KR.free 1
  obtain ⟨r0, r1⟩ := KR.two
  have Kz : Known _ _ _ #[.int .i64 (0), .int .i64 (1)] := (KR.put 0 (.int .i64 (0))).put 1 (.int .i64 (1))
  obtain ⟨z0, z1⟩ := Kz.two
  go_wp2_with fail
  exact bodyPost_ret (v := .tuple #[.agg #[.int .i64 (0), .int .i64 (1)], .int .i64 (0)]) (by simp [results, Tryd.results43, go_sem, z0, z1]) rfl ⟨rfl, (hb.setCell (p := ⟨w.heap.size + 1 + 1, 0, none⟩) hl _).setCell (p := ⟨w.heap.size + 1 + 1, 1, none⟩) hl _⟩

set_option maxRecDepth 10000 in
set_option maxHeartbeats 4000000 in
theorem apply_ne_true (a b c d : Int) (w : World) (i1 : I64 a) (i2 : I64 b) (i3 : I64 c) (i4 : I64 d) (g : (cmpN a b c d != 0) = true) :
    Calls Tryd.prog 43 #[.string ⟨#[60, 62]⟩, .agg #[.int .i64 a, .int .i64 b], .agg #[.int .i64 c, .int .i64 d]] w fun e w' => e = .returned (.tuple #[.agg #[.int .i64 (1), .int .i64 (1)], .int .i64 (0)]) ∧ Below w.heap.size w w' := by
  have hC := cmp_any a b c d i1 i2 i3 i4
  unfold RetI at hC
  generalize cmpN a b c d = C at *
  have hT := truth_true
  go_enter Tryd.func43, Tryd.ntmps43
  go_wp2_with fail
  refine (hC _).mono ?_
  rintro e w1 ⟨rfl, hb1⟩
  change Below (W3 a b c d w).heap.size (W3 a b c d w) w1 at hb1
  have hb := (W3_below a b c d w).then_ hb1
  have KA := (W3_a a b c d w).on hb1
  have KB := (W3_b a b c d w).on hb1
  have KR := (W3_r a b c d w).on hb1
  have hl : w.heap.size ≤ w.heap.size + 1 + 1 := by omega
  obtain ⟨a10, a11⟩ := KA.two
  obtain ⟨b10, b11⟩ := KB.two
  go_wp2_with fail
  refine (hT _).mono ?_
  rintro e w2 ⟨rfl, hb2⟩
  replace hb := hb.then_ hb2
  replace KA := KA.on hb2
  replace KB := KB.on hb2
  replace KR := KR.on hb2
  clear a10 a11 b10 b11
  obtain ⟨a10, a11⟩ := KA.two
  obtain ⟨b10, b11⟩ := KB.two
  have q0 := KR.free 0
  have q1 := KR.free 1
  obtain ⟨r0, r1⟩ := KR.two
  have Kz : Known _ _ _ #[.int .i64 (1), .int .i64 (1)] := (KR.put 0 (.int .i64 (1))).put 1 (.int .i64 (1))
  obtain ⟨z0, z1⟩ := Kz.two
  go_wp2_with fail
  exact bodyPost_ret (v := .tuple #[.agg #[.int .i64 (1), .int .i64 (1)], .int .i64 (0)]) (by simp [results, Tryd.results43, go_sem, z0, z1]) rfl ⟨rfl, (hb.setCell (p := ⟨w.heap.size + 1 + 1, 0, none⟩) hl _).setCell (p := ⟨w.heap.size + 1 + 1, 1, none⟩) hl _⟩

set_option maxRecDepth 10000 in
set_option maxHeartbeats 4000000 in
theorem apply_ne_false (a b c d : Int) (w : World) (i1 : I64 a) (i2 : I64 b) (i3 : I64 c) (i4 : I64 d) (g : (cmpN a b c d != 0) = false) :
    Calls Tryd.prog 43 #[.string ⟨#[60, 62]⟩, .agg #[.int .i64 a, .int .i64 b], .agg #[.int .i64 c, .int .i64 d]] w fun e w' => e = .returned (.tuple #[.agg #[.int .i64 (0), .int .i64 (1)], .int .i64 (0)]) ∧ Below w.heap.size w w' := by
  have hC := cmp_any a b c d i1 i2 i3 i4
  unfold RetI at hC
  generalize cmpN a b c d = C at *
  have hT := truth_false
  go_enter Tryd.func43, Tryd.ntmps43
  go_wp2_with fail
  refine (hC _).mono ?_
  rintro e w1 ⟨rfl, hb1⟩
  change Below (W3 a b c d w).heap.size (W3 a b c d w) w1 at hb1
  have hb := (W3_below a b c d w).then_ hb1
  have KA := (W3_a a b c d w).on hb1
  have KB := (W3_b a b c d w).on hb1
  have KR := (W3_r a b c d w).on hb1
  have hl : w.heap.size ≤ w.heap.size + 1 + 1 := by omega
  obtain ⟨a10, a11⟩ := KA.two
  obtain ⟨b10, b11⟩ := KB.two
  go_wp2_with fail
  refine (hT _).mono ?_
  rintro e w2 ⟨rfl, hb2⟩
  replace hb := hb.then_ hb2
  replace KA := KA.on hb2
  replace KB := KB.on hb2
  replace KR := KR.on hb2
  clear a10 a11 b10 b11
  obtain ⟨a10, a11⟩ := KA.two
  obtain ⟨b10, b11⟩ := KB.two
  have q0 := KR.free 0
  have q1 := KR.free 1
  obtain ⟨r0, r1⟩ := KR.two
  have Kz : Known _ _ _ #[.int .i64 (0), .int .i64 (1)] := (KR.put 0 (.int .i64 (0))).put 1 (.int .i64 (1))
  obtain ⟨z0, z1⟩ := Kz.two
  go_wp2_with fail
  exact bodyPost_ret (v := .tuple #[.agg #[.int .i64 (0), .int .i64 (1)], .int .i64 (0)]) (by simp [results, Tryd.results43, go_sem, z0, z1]) rfl ⟨rfl, (hb.setCell (p := ⟨w.heap.size + 1 + 1, 0, none⟩) hl _).setCell (p := ⟨w.heap.size + 1 + 1, 1, none⟩) hl _⟩

set_option maxRecDepth 10000 in
set_option maxHeartbeats 4000000 in
theorem apply_lt_true (a b c d : Int) (w : World) (i1 : I64 a) (i2 : I64 b) (i3 : I64 c) (i4 : I64 d) (g : decide (cmpN a b c d < 0) = true) :
    Calls Tryd.prog 43 #[.string ⟨#[60]⟩, .agg #[.int .i64 a, .int .i64 b], .agg #[.int .i64 c, .int .i64 d]] w fun e w' => e = .returned (.tuple #[.agg #[.int .i64 (1), .int .i64 (1)], .int .i64 (0)]) ∧ Below w.heap.size w w' := by
  have hC := cmp_any a b c d i1 i2 i3 i4
  unfold RetI at hC
  generalize cmpN a b c d = C at *
  have hT := truth_true
  go_enter Tryd.func43, Tryd.ntmps43
  go_wp2_with fail
  refine (hC _).mono ?_
  rintro e w1 ⟨rfl, hb1⟩
  change Below (W3 a b c d w).heap.size (W3 a b c d w) w1 at hb1
  have hb := (W3_below a b c d w).then_ hb1
  have KA := (W3_a a b c d w).on hb1
  have KB := (W3_b a b c d w).on hb1
  have KR := (W3_r a b c d w).on hb1
  have hl : w.heap.size ≤ w.heap.size + 1 + 1 := by omega
  obtain ⟨a10, a11⟩ := KA.two
  obtain ⟨b10, b11⟩ := KB.two
  go_wp2_with fail
  refine (hT _).mono ?_
  rintro e w2 ⟨rfl, hb2⟩
  replace hb := hb.then_ hb2
  replace KA := KA.on hb2
  replace KB := KB.on hb2
  replace KR := KR.on hb2
  clear a10 a11 b10 b11
  obtain ⟨a10, a11⟩ := KA.two
  obtain ⟨b10, b11⟩ := KB.two
  have q0 := KR.free 0
  have q1 := KR.free 1
  obtain ⟨r0, r1⟩ := KR.two
  have Kz : Known _ _ _ #[.int .i64 (1), .int .i64 (1)] := (KR.put 0 (.int .i64 (1))).put 1 (.int .i64 (1))
  obtain ⟨z0, z1⟩ := Kz.two
  go_wp2_with fail
  exact bodyPost_ret (v := .tuple #[.agg #[.int .i64 (1), .int .i64 (1)], .int .i64 (0)]) (by simp [results, Tryd.results43, go_sem, z0, z1]) rfl ⟨rfl, (hb.setCell (p := ⟨w.heap.size + 1 + 1, 0, none⟩) hl _).setCell (p := ⟨w.heap.size + 1 + 1, 1, none⟩) hl _⟩

set_option maxRecDepth 10000 in
set_option maxHeartbeats 4000000 in
theorem apply_lt_false (a b c d : Int) (w : World) (i1 : I64 a) (i2 : I64 b) (i3 : I64 c) (i4 : I64 d) (g : decide (cmpN a b c d < 0) = false) :
    Calls Tryd.prog 43 #[.string ⟨#[60]⟩, .agg #[.int .i64 a, .int .i64 b], .agg #[.int .i64 c, .int .i64 d]] w fun e w' => e = .returned (.tuple #[.agg #[.int .i64 (0), .int .i64 (1)], .int .i64 (0)]) ∧ Below w.heap.size w w' := by
  have hC := cmp_any a b c d i1 i2 i3 i4
  unfold RetI at hC
  generalize cmpN a b c d = C at *
  have hT := truth_false
  go_enter Tryd.func43, Tryd.ntmps43
  go_wp2_with fail
  refine (hC _).mono ?_
  rintro e w1 ⟨rfl, hb1⟩
  change Below (W3 a b c d w).heap.size (W3 a b c d w) w1 at hb1
  have hb := (W3_below a b c d w).then_ hb1
  have KA := (W3_a a b c d w).on hb1
  have KB := (W3_b a b c d w).on hb1
  have KR := (W3_r a b c d w).on hb1
  have hl : w.heap.size ≤ w.heap.size + 1 + 1 := by omega
  obtain ⟨a10, a11⟩ := KA.two
  obtain ⟨b10, b11⟩ := KB.two
  go_wp2_with fail
  refine (hT _).mono ?_
  rintro e w2 ⟨rfl, hb2⟩
  replace hb := hb.then_ hb2
  replace KA := KA.on hb2
  replace KB := KB.on hb2
  replace KR := KR.on hb2
  clear a10 a11 b10 b11
  obtain ⟨a10, a11⟩ := KA.two
  obtain ⟨b10, b11⟩ := KB.two
  have q0 := KR.free 0
  have q1 := KR.free 1
  obtain ⟨r0, r1⟩ := KR.two
  have Kz : Known _ _ _ #[.int .i64 (0), .int .i64 (1)] := (KR.put 0 (.int .i64 (0))).put 1 (.int .i64 (1))
  obtain ⟨z0, z1⟩ := Kz.two
  go_wp2_with fail
  exact bodyPost_ret (v := .tuple #[.agg #[.int .i64 (0), .int .i64 (1)], .int .i64 (0)]) (by simp [results, Tryd.results43, go_sem, z0, z1]) rfl ⟨rfl, (hb.setCell (p := ⟨w.heap.size + 1 + 1, 0, none⟩) hl _).setCell (p := ⟨w.heap.size + 1 + 1, 1, none⟩) hl _⟩

set_option maxRecDepth 10000 in
set_option maxHeartbeats 4000000 in
theorem apply_gt_true (a b c d : Int) (w : World) (i1 : I64 a) (i2 : I64 b) (i3 : I64 c) (i4 : I64 d) (g : decide (0 < cmpN a b c d) = true) :
    Calls Tryd.prog 43 #[.string ⟨#[62]⟩, .agg #[.int .i64 a, .int .i64 b], .agg #[.int .i64 c, .int .i64 d]] w fun e w' => e = .returned (.tuple #[.agg #[.int .i64 (1), .int .i64 (1)], .int .i64 (0)]) ∧ Below w.heap.size w w' := by
  have hC := cmp_any a b c d i1 i2 i3 i4
  unfold RetI at hC
  generalize cmpN a b c d = C at *
  have hT := truth_true
  go_enter Tryd.func43, Tryd.ntmps43
  go_wp2_with fail
  refine (hC _).mono ?_
  rintro e w1 ⟨rfl, hb1⟩
  change Below (W3 a b c d w).heap.size (W3 a b c d w) w1 at hb1
  have hb := (W3_below a b c d w).then_ hb1
  have KA := (W3_a a b c d w).on hb1
  have KB := (W3_b a b c d w).on hb1
  have KR := (W3_r a b c d w).on hb1
  have hl : w.heap.size ≤ w.heap.size + 1 + 1 := by omega
  obtain ⟨a10, a11⟩ := KA.two
  obtain ⟨b10, b11⟩ := KB.two
  go_wp2_with fail
  refine (hT _).mono ?_
  rintro e w2 ⟨rfl, hb2⟩
  replace hb := hb.then_ hb2
  replace KA := KA.on hb2
  replace KB := KB.on hb2
  replace KR := KR.on hb2
  clear a10 a11 b10 b11
  obtain ⟨a10, a11⟩ := KA.two
  obtain ⟨b10, b11⟩ := KB.two
  have q0 := KR.free 0
  have q1 := KR.free 1
  obtain ⟨r0, r1⟩ := KR.two
  have Kz : Known _ _ _ #[.int .i64 (1), .int .i64 (1)] := (KR.put 0 (.int .i64 (1))).put 1 (.int .i64 (1))
  obtain ⟨z0, z1⟩ := Kz.two
  go_wp2_with fail
  exact bodyPost_ret (v := .tuple #[.agg #[.int .i64 (1), .int .i64 (1)], .int .i64 (0)]) (by simp [results, Tryd.results43, go_sem, z0, z1]) rfl ⟨rfl, (hb.setCell (p := ⟨w.heap.size + 1 + 1, 0, none⟩) hl _).setCell (p := ⟨w.heap.size + 1 + 1, 1, none⟩) hl _⟩

set_option maxRecDepth 10000 in
set_option maxHeartbeats 4000000 in
theorem apply_gt_false (a b c d : Int) (w : World) (i1 : I64 a) (i2 : I64 b) (i3 : I64 c) (i4 : I64 d) (g : decide (0 < cmpN a b c d) = false) :
    Calls Tryd.prog 43 #[.string ⟨#[62]⟩, .agg #[.int .i64 a, .int .i64 b], .agg #[.int .i64 c, .int .i64 d]] w fun e w' => e = .returned (.tuple #[.agg #[.int .i64 (0), .int .i64 (1)], .int .i64 (0)]) ∧ Below w.heap.size w w' := by
  have hC := cmp_any a b c d i1 i2 i3 i4
  unfold RetI at hC
  generalize cmpN a b c d = C at *
  have hT := truth_false
  go_enter Tryd.func43, Tryd.ntmps43
  go_wp2_with fail
  refine (hC _).mono ?_
  rintro e w1 ⟨rfl, hb1⟩
  change Below (W3 a b c d w).heap.size (W3 a b c d w) w1 at hb1
  have hb := (W3_below a b c d w).then_ hb1
  have KA := (W3_a a b c d w).on hb1
  have KB := (W3_b a b c d w).on hb1
  have KR := (W3_r a b c d w).on hb1
  have hl : w.heap.size ≤ w.heap.size + 1 + 1 := by omega
  obtain ⟨a10, a11⟩ := KA.two
  obtain ⟨b10, b11⟩ := KB.two
  go_wp2_with fail
  refine (hT _).mono ?_
  rintro e w2 ⟨rfl, hb2⟩
  replace hb := hb.then_ hb2
  replace KA := KA.on hb2
  replace KB := KB.on hb2
  replace KR := KR.on hb2
  clear a10 a11 b10 b11
  obtain ⟨a10, a11⟩ := KA.two
  obtain ⟨b10, b11⟩ := KB.two
  have q0 := KR.free 0
  have q1 := KR.free 1
  obtain ⟨r0, r1⟩ := KR.two
  have Kz : Known _ _ _ #[.int .i64 (0), .int .i64 (1)] := (KR.put 0 (.int .i64 (0))).put 1 (.int .i64 (1))
  obtain ⟨z0, z1⟩ := Kz.two
  go_wp2_with fail
  exact bodyPost_ret (v := .tuple #[.agg #[.int .i64 (0), .int .i64 (1)], .int .i64 (0)]) (by simp [results, Tryd.results43, go_sem, z0, z1]) rfl ⟨rfl, (hb.setCell (p := ⟨w.heap.size + 1 + 1, 0, none⟩) hl _).setCell (p := ⟨w.heap.size + 1 + 1, 1, none⟩) hl _⟩

set_option maxRecDepth 10000 in
set_option maxHeartbeats 4000000 in
theorem apply_le_true (a b c d : Int) (w : World) (i1 : I64 a) (i2 : I64 b) (i3 : I64 c) (i4 : I64 d) (g : decide (cmpN a b c d ≤ 0) = true) :
    Calls Tryd.prog 43 #[.string ⟨#[60, 61]⟩, .agg #[.int .i64 a, .int .i64 b], .agg #[.int .i64 c, .int .i64 d]] w fun e w' => e = .returned (.tuple #[.agg #[.int .i64 (1), .int .i64 (1)], .int .i64 (0)]) ∧ Below w.heap.size w w' := by
  have hC := cmp_any a b c d i1 i2 i3 i4
  unfold RetI at hC
  generalize cmpN a b c d = C at *
  have hT := truth_true
  go_enter Tryd.func43, Tryd.ntmps43
  go_wp2_with fail
  refine (hC _).mono ?_
  rintro e w1 ⟨rfl, hb1⟩
  change Below (W3 a b c d w).heap.size (W3 a b c d w) w1 at hb1
  have hb := (W3_below a b c d w).then_ hb1
  have KA := (W3_a a b c d w).on hb1
  have KB := (W3_b a b c d w).on hb1
  have KR := (W3_r a b c d w).on hb1
  have hl : w.heap.size ≤ w.heap.size + 1 + 1 := by omega
  obtain ⟨a10, a11⟩ := KA.two
  obtain ⟨b10, b11⟩ := KB.two
  go_wp2_with fail
  refine (hT _).mono ?_
  rintro e w2 ⟨rfl, hb2⟩
  replace hb := hb.then_ hb2
  replace KA := KA.on hb2
  replace KB := KB.on hb2
  replace KR := KR.on hb2
  clear a10 a11 b10 b11
  obtain ⟨a10, a11⟩ := KA.two
  obtain ⟨b10, b11⟩ := KB.two
  have q0 := KR.free 0
  have q1 := KR.free 1
  obtain ⟨r0, r1⟩ := KR.two
  have Kz : Known _ _ _ #[.int .i64 (1), .int .i64 (1)] := (KR.put 0 (.int .i64 (1))).put 1 (.int .i64 (1))
  obtain ⟨z0, z1⟩ := Kz.two
  go_wp2_with fail
  exact bodyPost_ret (v := .tuple #[.agg #[.int .i64 (1), .int .i64 (1)], .int .i64 (0)]) (by simp [results, Tryd.results43, go_sem, z0, z1]) rfl ⟨rfl, (hb.setCell (p := ⟨w.heap.size + 1 + 1, 0, none⟩) hl _).setCell (p := ⟨w.heap.size + 1 + 1, 1, none⟩) hl _⟩

set_option maxRecDepth 10000 in
set_option maxHeartbeats 4000000 in
theorem apply_le_false (a b c d : Int) (w : World) (i1 : I64 a) (i2 : I64 b) (i3 : I64 c) (i4 : I64 d) (g : decide (cmpN a b c d ≤ 0) = false) :
    Calls Tryd.prog 43 #[.string ⟨#[60, 61]⟩, .agg #[.int .i64 a, .int .i64 b], .agg #[.int .i64 c, .int .i64 d]] w fun e w' => e = .returned (.tuple #[.agg #[.int .i64 (0), .int .i64 (1)], .int .i64 (0)]) ∧ Below w.heap.size w w' := by
  have hC := cmp_any a b c d i1 i2 i3 i4
  unfold RetI at hC
  generalize cmpN a b c d = C at *
  have hT := truth_false
  go_enter Tryd.func43, Tryd.ntmps43
  go_wp2_with fail
  refine (hC _).mono ?_
  rintro e w1 ⟨rfl, hb1⟩
  change Below (W3 a b c d w).heap.size (W3 a b c d w) w1 at hb1
  have hb := (W3_below a b c d w).then_ hb1
  have KA := (W3_a a b c d w).on hb1
  have KB := (W3_b a b c d w).on hb1
  have KR := (W3_r a b c d w).on hb1
  have hl : w.heap.size ≤ w.heap.size + 1 + 1 := by omega
  obtain ⟨a10, a11⟩ := KA.two
  obtain ⟨b10, b11⟩ := KB.two
  go_wp2_with fail
  refine (hT _).mono ?_
  rintro e w2 ⟨rfl, hb2⟩
  replace hb := hb.then_ hb2
  replace KA := KA.on hb2
  replace KB := KB.on hb2
  replace KR := KR.on hb2
  clear a10 a11 b10 b11
  obtain ⟨a10, a11⟩ := KA.two
  obtain ⟨b10, b11⟩ := KB.two
  have q0 := KR.free 0
  have q1 := KR.free 1
  obtain ⟨r0, r1⟩ := KR.two
  have Kz : Known _ _ _ #[.int .i64 (0), .int .i64 (1)] := (KR.put 0 (.int .i64 (0))).put 1 (.int .i64 (1))
  obtain ⟨z0, z1⟩ := Kz.two
  go_wp2_with fail
  exact bodyPost_ret (v := .tuple #[.agg #[.int .i64 (0), .int .i64 (1)], .int .i64 (0)]) (by simp [results, Tryd.results43, go_sem, z0, z1]) rfl ⟨rfl, (hb.setCell (p := ⟨w.heap.size + 1 + 1, 0, none⟩) hl _).setCell (p := ⟨w.heap.size + 1 + 1, 1, none⟩) hl _⟩

set_option maxRecDepth 10000 in
set_option maxHeartbeats 4000000 in
theorem apply_ge_true (a b c d : Int) (w : World) (i1 : I64 a) (i2 : I64 b) (i3 : I64 c) (i4 : I64 d) (g : decide (0 ≤ cmpN a b c d) = true) :
    Calls Tryd.prog 43 #[.string ⟨#[62, 61]⟩, .agg #[.int .i64 a, .int .i64 b], .agg #[.int .i64 c, .int .i64 d]] w fun e w' => e = .returned (.tuple #[.agg #[.int .i64 (1), .int .i64 (1)], .int .i64 (0)]) ∧ Below w.heap.size w w' := by
  have hC := cmp_any a b c d i1 i2 i3 i4
  unfold RetI at hC
  generalize cmpN a b c d = C at *
  have hT := truth_true
  go_enter Tryd.func43, Tryd.ntmps43
  go_wp2_with fail
  refine (hC _).mono ?_
  rintro e w1 ⟨rfl, hb1⟩
  change Below (W3 a b c d w).heap.size (W3 a b c d w) w1 at hb1
  have hb := (W3_below a b c d w).then_ hb1
  have KA := (W3_a a b c d w).on hb1
  have KB := (W3_b a b c d w).on hb1
  have KR := (W3_r a b c d w).on hb1
  have hl : w.heap.size ≤ w.heap.size + 1 + 1 := by omega
  obtain ⟨a10, a11⟩ := KA.two
  obtain ⟨b10, b11⟩ := KB.two
  go_wp2_with fail
  refine (hT _).mono ?_
  rintro e w2 ⟨rfl, hb2⟩
  replace hb := hb.then_ hb2
  replace KA := KA.on hb2
  replace KB := KB.on hb2
  replace KR := KR.on hb2
  clear a10 a11 b10 b11
  obtain ⟨a10, a11⟩ := KA.two
  obtain ⟨b10, b11⟩ := KB.two
  have q0 := KR.free 0
  have q1 := KR.free 1
  obtain ⟨r0, r1⟩ := KR.two
  have Kz : Known _ _ _ #[.int .i64 (1), .int .i64 (1)] := (KR.put 0 (.int .i64 (1))).put 1 (.int .i64 (1))
  obtain ⟨z0, z1⟩ := Kz.two
  go_wp2_with fail
  exact bodyPost_ret (v := .tuple #[.agg #[.int .i64 (1), .int .i64 (1)], .int .i64 (0)]) (by simp [results, Tryd.results43, go_sem, z0, z1]) rfl ⟨rfl, (hb.setCell (p := ⟨w.heap.size + 1 + 1, 0, none⟩) hl _).setCell (p := ⟨w.heap.size + 1 + 1, 1, none⟩) hl _⟩

set_option maxRecDepth 10000 in
set_option maxHeartbeats 4000000 in
theorem apply_ge_false (a b c d : Int) (w : World) (i1 : I64 a) (i2 : I64 b) (i3 : I64 c) (i4 : I64 d) (g : decide (0 ≤ cmpN a b c d) = false) :
    Calls Tryd.prog 43 #[.string ⟨#[62, 61]⟩, .agg #[.int .i64 a, .int .i64 b], .agg #[.int .i64 c, .int .i64 d]] w fun e w' => e = .returned (.tuple #[.agg #[.int .i64 (0), .int .i64 (1)], .int .i64 (0)]) ∧ Below w.heap.size w w' := by
  have hC := cmp_any a b c d i1 i2 i3 i4
  unfold RetI at hC
  generalize cmpN a b c d = C at *
  have hT := truth_false
  go_enter Tryd.func43, Tryd.ntmps43
  go_wp2_with fail
  refine (hC _).mono ?_
  rintro e w1 ⟨rfl, hb1⟩
  change Below (W3 a b c d w).heap.size (W3 a b c d w) w1 at hb1
  have hb := (W3_below a b c d w).then_ hb1
  have KA := (W3_a a b c d w).on hb1
  have KB := (W3_b a b c d w).on hb1
  have KR := (W3_r a b c d w).on hb1
  have hl : w.heap.size ≤ w.heap.size + 1 + 1 := by omega
  obtain ⟨a10, a11⟩ := KA.two
  obtain ⟨b10, b11⟩ := KB.two
  go_wp2_with fail
  refine (hT _).mono ?_
  rintro e w2 ⟨rfl, hb2⟩
  replace hb := hb.then_ hb2
  replace KA := KA.on hb2
  replace KB := KB.on hb2
  replace KR := KR.on hb2
  clear a10 a11 b10 b11
  obtain ⟨a10, a11⟩ := KA.two
  obtain ⟨b10, b11⟩ := KB.two
  have q0 := KR.free 0
  have q1 := KR.free 1
  obtain ⟨r0, r1⟩ := KR.two
  have Kz : Known _ _ _ #[.int .i64 (0), .int .i64 (1)] := (KR.put 0 (.int .i64 (0))).put 1 (.int .i64 (1))
  obtain ⟨z0, z1⟩ := Kz.two
  go_wp2_with fail
  exact bodyPost_ret (v := .tuple #[.agg #[.int .i64 (0), .int .i64 (1)], .int .i64 (0)]) (by simp [results, Tryd.results43, go_sem, z0, z1]) rfl ⟨rfl, (hb.setCell (p := ⟨w.heap.size + 1 + 1, 0, none⟩) hl _).setCell (p := ⟨w.heap.size + 1 + 1, 1, none⟩) hl _⟩

set_option maxRecDepth 10000 in
set_option maxHeartbeats 4000000 in
theorem apply_and_00 (a b c d : Int) (w : World) (i1 : I64 a) (i2 : I64 b) (i3 : I64 c) (i4 : I64 d) (ha : a = 0) :
    Calls Tryd.prog 43 #[.string ⟨#[97, 110, 100]⟩, .agg #[.int .i64 a, .int .i64 b], .agg #[.int .i64 c, .int .i64 d]] w fun e w' => e = .returned (.tuple #[.agg #[.int .i64 (0), .int .i64 (1)], .int .i64 (0)]) ∧ Below w.heap.size w w' := by
  have hC := cmp_any a b c d i1 i2 i3 i4
  unfold RetI at hC
  have g1 : (a != 0) = false := by simpa using ha
  have g2 : (a == 0) = true := by simpa using ha
  generalize cmpN a b c d = C at *
  clear ha
  have hT := truth_false
  go_enter Tryd.func43, Tryd.ntmps43
  go_wp2_with fail
  refine (hC _).mono ?_
  rintro e w1 ⟨rfl, hb1⟩
  change Below (W3 a b c d w).heap.size (W3 a b c d w) w1 at hb1
  have hb := (W3_below a b c d w).then_ hb1
  have KA := (W3_a a b c d w).on hb1
  have KB := (W3_b a b c d w).on hb1
  have KR := (W3_r a b c d w).on hb1
  have hl : w.heap.size ≤ w.heap.size + 1 + 1 := by omega
  obtain ⟨a10, a11⟩ := KA.two
  obtain ⟨b10, b11⟩ := KB.two
  go_wp2_with fail
  refine (hT _).mono ?_
  rintro e w2 ⟨rfl, hb2⟩
  replace hb := hb.then_ hb2
  replace KA := KA.on hb2
  replace KB := KB.on hb2
  replace KR := KR.on hb2
  clear a10 a11 b10 b11
  obtain ⟨a10, a11⟩ := KA.two
  obtain ⟨b10, b11⟩ := KB.two
  have q0 := KR.free 0
  have q1 := KR.free 1
  obtain ⟨r0, r1⟩ := KR.two
  have Kz : Known _ _ _ #[.int .i64 (0), .int .i64 (1)] := (KR.put 0 (.int .i64 (0))).put 1 (.int .i64 (1))
  obtain ⟨z0, z1⟩ := Kz.two
  go_wp2_with fail
  exact bodyPost_ret (v := .tuple #[.agg #[.int .i64 (0), .int .i64 (1)], .int .i64 (0)]) (by simp [results, Tryd.results43, go_sem, z0, z1]) rfl ⟨rfl, (hb.setCell (p := ⟨w.heap.size + 1 + 1, 0, none⟩) hl _).setCell (p := ⟨w.heap.size + 1 + 1, 1, none⟩) hl _⟩

set_option maxRecDepth 10000 in
set_option maxHeartbeats 4000000 in
theorem apply_and_10 (a b c d : Int) (w : World) (i1 : I64 a) (i2 : I64 b) (i3 : I64 c) (i4 : I64 d) (ha : ¬ a = 0) (hc : c = 0) :
    Calls Tryd.prog 43 #[.string ⟨#[97, 110, 100]⟩, .agg #[.int .i64 a, .int .i64 b], .agg #[.int .i64 c, .int .i64 d]] w fun e w' => e = .returned (.tuple #[.agg #[.int .i64 (0), .int .i64 (1)], .int .i64 (0)]) ∧ Below w.heap.size w w' := by
  have hC := cmp_any a b c d i1 i2 i3 i4
  unfold RetI at hC
  have g1 : (a != 0) = true := by simpa using ha
  have g2 : (a == 0) = false := by simpa using ha
  have g3 : (c != 0) = false := by simpa using hc
  have g4 : (c == 0) = true := by simpa using hc
  generalize cmpN a b c d = C at *
  clear ha hc
  have hT := truth_false
  go_enter Tryd.func43, Tryd.ntmps43
  go_wp2_with fail
  refine (hC _).mono ?_
  rintro e w1 ⟨rfl, hb1⟩
  change Below (W3 a b c d w).heap.size (W3 a b c d w) w1 at hb1
  have hb := (W3_below a b c d w).then_ hb1
  have KA := (W3_a a b c d w).on hb1
  have KB := (W3_b a b c d w).on hb1
  have KR := (W3_r a b c d w).on hb1
  have hl : w.heap.size ≤ w.heap.size + 1 + 1 := by omega
  obtain ⟨a10, a11⟩ := KA.two
  obtain ⟨b10, b11⟩ := KB.two
  go_wp2_with fail
  refine (hT _).mono ?_
  rintro e w2 ⟨rfl, hb2⟩
  replace hb := hb.then_ hb2
  replace KA := KA.on hb2
  replace KB := KB.on hb2
  replace KR := KR.on hb2
  clear a10 a11 b10 b11
  obtain ⟨a10, a11⟩ := KA.two
  obtain ⟨b10, b11⟩ := KB.two
  have q0 := KR.free 0
  have q1 := KR.free 1
  obtain ⟨r0, r1⟩ := KR.two
  have Kz : Known _ _ _ #[.int .i64 (0), .int .i64 (1)] := (KR.put 0 (.int .i64 (0))).put 1 (.int .i64 (1))
  obtain ⟨z0, z1⟩ := Kz.two
  go_wp2_with fail
  exact bodyPost_ret (v := .tuple #[.agg #[.int .i64 (0), .int .i64 (1)], .int .i64 (0)]) (by simp [results, Tryd.results43, go_sem, z0, z1]) rfl ⟨rfl, (hb.setCell (p := ⟨w.heap.size + 1 + 1, 0, none⟩) hl _).setCell (p := ⟨w.heap.size + 1 + 1, 1, none⟩) hl _⟩

set_option maxRecDepth 10000 in
set_option maxHeartbeats 4000000 in
theorem apply_and_11 (a b c d : Int) (w : World) (i1 : I64 a) (i2 : I64 b) (i3 : I64 c) (i4 : I64 d) (ha : ¬ a = 0) (hc : ¬ c = 0) :
    Calls Tryd.prog 43 #[.string ⟨#[97, 110, 100]⟩, .agg #[.int .i64 a, .int .i64 b], .agg #[.int .i64 c, .int .i64 d]] w fun e w' => e = .returned (.tuple #[.agg #[.int .i64 (1), .int .i64 (1)], .int .i64 (0)]) ∧ Below w.heap.size w w' := by
  have hC := cmp_any a b c d i1 i2 i3 i4
  unfold RetI at hC
  have g1 : (a != 0) = true := by simpa using ha
  have g2 : (a == 0) = false := by simpa using ha
  have g3 : (c != 0) = true := by simpa using hc
  have g4 : (c == 0) = false := by simpa using hc
  generalize cmpN a b c d = C at *
  clear ha hc
  have hT := truth_true
  go_enter Tryd.func43, Tryd.ntmps43
  go_wp2_with fail
  refine (hC _).mono ?_
  rintro e w1 ⟨rfl, hb1⟩
  change Below (W3 a b c d w).heap.size (W3 a b c d w) w1 at hb1
  have hb := (W3_below a b c d w).then_ hb1
  have KA := (W3_a a b c d w).on hb1
  have KB := (W3_b a b c d w).on hb1
  have KR := (W3_r a b c d w).on hb1
  have hl : w.heap.size ≤ w.heap.size + 1 + 1 := by omega
  obtain ⟨a10, a11⟩ := KA.two
  obtain ⟨b10, b11⟩ := KB.two
  go_wp2_with fail
  refine (hT _).mono ?_
  rintro e w2 ⟨rfl, hb2⟩
  replace hb := hb.then_ hb2
  replace KA := KA.on hb2
  replace KB := KB.on hb2
  replace KR := KR.on hb2
  clear a10 a11 b10 b11
  obtain ⟨a10, a11⟩ := KA.two
  obtain ⟨b10, b11⟩ := KB.two
  have q0 := KR.free 0
  have q1 := KR.free 1
  obtain ⟨r0, r1⟩ := KR.two
  have Kz : Known _ _ _ #[.int .i64 (1), .int .i64 (1)] := (KR.put 0 (.int .i64 (1))).put 1 (.int .i64 (1))
  obtain ⟨z0, z1⟩ := Kz.two
  go_wp2_with fail
  exact bodyPost_ret (v := .tuple #[.agg #[.int .i64 (1), .int .i64 (1)], .int .i64 (0)]) (by simp [results, Tryd.results43, go_sem, z0, z1]) rfl ⟨rfl, (hb.setCell (p := ⟨w.heap.size + 1 + 1, 0, none⟩) hl _).setCell (p := ⟨w.heap.size + 1 + 1, 1, none⟩) hl _⟩

set_option maxRecDepth 10000 in
set_option maxHeartbeats 4000000 in
theorem apply_or_00 (op : ByteArray) (a b c d : Int) (w : World) (i1 : I64 a) (i2 : I64 b) (i3 : I64 c) (i4 : I64 d) (h0 : (op.toList == [43]) = false) (h1 : (op.toList == [45]) = false) (h2 : (op.toList == [42]) = false) (h3 : (op.toList == [47]) = false) (h4 : (op.toList == [109, 111, 100]) = false) (h5 : (op.toList == [94]) = false) (h6 : (op.toList == [114, 111, 117, 110, 100]) = false) (h7 : (op.toList == [61]) = false) (h8 : (op.toList == [60, 62]) = false) (h9 : (op.toList == [60]) = false) (h10 : (op.toList == [62]) = false) (h11 : (op.toList == [60, 61]) = false) (h12 : (op.toList == [62, 61]) = false) (h13 : (op.toList == [97, 110, 100]) = false) (ha : a = 0) (hc : c = 0) :
    Calls Tryd.prog 43 #[.string op, .agg #[.int .i64 a, .int .i64 b], .agg #[.int .i64 c, .int .i64 d]] w fun e w' => e = .returned (.tuple #[.agg #[.int .i64 (0), .int .i64 (1)], .int .i64 (0)]) ∧ Below w.heap.size w w' := by
  have hC := cmp_any a b c d i1 i2 i3 i4
  unfold RetI at hC
  have g1 : (a != 0) = false := by simpa using ha
  have g2 : (a == 0) = true := by simpa using ha
  have g3 : (c != 0) = false := by simpa using hc
  have g4 : (c == 0) = true := by simpa using hc
  generalize cmpN a b c d = C at *
  clear ha hc
  have hT := truth_false
  go_enter Tryd.func43, Tryd.ntmps43
  go_wp2_with fail
  refine (hC _).mono ?_
  rintro e w1 ⟨rfl, hb1⟩
  change Below (W3 a b c d w).heap.size (W3 a b c d w) w1 at hb1
  have hb := (W3_below a b c d w).then_ hb1
  have KA := (W3_a a b c d w).on hb1
  have KB := (W3_b a b c d w).on hb1
  have KR := (W3_r a b c d w).on hb1
  have hl : w.heap.size ≤ w.heap.size + 1 + 1 := by omega
  obtain ⟨a10, a11⟩ := KA.two
  obtain ⟨b10, b11⟩ := KB.two
  go_wp2_with fail
  refine (hT _).mono ?_
  rintro e w2 ⟨rfl, hb2⟩
  replace hb := hb.then_ hb2
  replace KA := KA.on hb2
  replace KB := KB.on hb2
  replace KR := KR.on hb2
  clear a10 a11 b10 b11
  obtain ⟨a10, a11⟩ := KA.two
  obtain ⟨b10, b11⟩ := KB.two
  have q0 := KR.free 0
  have q1 := KR.free 1
  obtain ⟨r0, r1⟩ := KR.two
  have Kz : Known _ _ _ #[.int .i64 (0), .int .i64 (1)] := (KR.put 0 (.int .i64 (0))).put 1 (.int .i64 (1))
  obtain ⟨z0, z1⟩ := Kz.two
  go_wp2_with fail
  exact bodyPost_ret (v := .tuple #[.agg #[.int .i64 (0), .int .i64 (1)], .int .i64 (0)]) (by simp [results, Tryd.results43, go_sem, z0, z1]) rfl ⟨rfl, (hb.setCell (p := ⟨w.heap.size + 1 + 1, 0, none⟩) hl _).setCell (p := ⟨w.heap.size + 1 + 1, 1, none⟩) hl _⟩

set_option maxRecDepth 10000 in
set_option maxHeartbeats 4000000 in
theorem apply_or_01 (op : ByteArray) (a b c d : Int) (w : World) (i1 : I64 a) (i2 : I64 b) (i3 : I64 c) (i4 : I64 d) (h0 : (op.toList == [43]) = false) (h1 : (op.toList == [45]) = false) (h2 : (op.toList == [42]) = false) (h3 : (op.toList == [47]) = false) (h4 : (op.toList == [109, 111, 100]) = false) (h5 : (op.toList == [94]) = false) (h6 : (op.toList == [114, 111, 117, 110, 100]) = false) (h7 : (op.toList == [61]) = false) (h8 : (op.toList == [60, 62]) = false) (h9 : (op.toList == [60]) = false) (h10 : (op.toList == [62]) = false) (h11 : (op.toList == [60, 61]) = false) (h12 : (op.toList == [62, 61]) = false) (h13 : (op.toList == [97, 110, 100]) = false) (ha : a = 0) (hc : ¬ c = 0) :
    Calls Tryd.prog 43 #[.string op, .agg #[.int .i64 a, .int .i64 b], .agg #[.int .i64 c, .int .i64 d]] w fun e w' => e = .returned (.tuple #[.agg #[.int .i64 (1), .int .i64 (1)], .int .i64 (0)]) ∧ Below w.heap.size w w' := by
  have hC := cmp_any a b c d i1 i2 i3 i4
  unfold RetI at hC
  have g1 : (a != 0) = false := by simpa using ha
  have g2 : (a == 0) = true := by simpa using ha
  have g3 : (c != 0) = true := by simpa using hc
  have g4 : (c == 0) = false := by simpa using hc
  generalize cmpN a b c d = C at *
  clear ha hc
  have hT := truth_true
  go_enter Tryd.func43, Tryd.ntmps43
  go_wp2_with fail
  refine (hC _).mono ?_
  rintro e w1 ⟨rfl, hb1⟩
  change Below (W3 a b c d w).heap.size (W3 a b c d w) w1 at hb1
  have hb := (W3_below a b c d w).then_ hb1
  have KA := (W3_a a b c d w).on hb1
  have KB := (W3_b a b c d w).on hb1
  have KR := (W3_r a b c d w).on hb1
  have hl : w.heap.size ≤ w.heap.size + 1 + 1 := by omega
  obtain ⟨a10, a11⟩ := KA.two
  obtain ⟨b10, b11⟩ := KB.two
  go_wp2_with fail
  refine (hT _).mono ?_
  rintro e w2 ⟨rfl, hb2⟩
  replace hb := hb.then_ hb2
  replace KA := KA.on hb2
  replace KB := KB.on hb2
  replace KR := KR.on hb2
  clear a10 a11 b10 b11
  obtain ⟨a10, a11⟩ := KA.two
  obtain ⟨b10, b11⟩ := KB.two
  have q0 := KR.free 0
  have q1 := KR.free 1
  obtain ⟨r0, r1⟩ := KR.two
  have Kz : Known _ _ _ #[.int .i64 (1), .int .i64 (1)] := (KR.put 0 (.int .i64 (1))).put 1 (.int .i64 (1))
  obtain ⟨z0, z1⟩ := Kz.two
  go_wp2_with fail
  exact bodyPost_ret (v := .tuple #[.agg #[.int .i64 (1), .int .i64 (1)], .int .i64 (0)]) (by simp [results, Tryd.results43, go_sem, z0, z1]) rfl ⟨rfl, (hb.setCell (p := ⟨w.heap.size + 1 + 1, 0, none⟩) hl _).setCell (p := ⟨w.heap.size + 1 + 1, 1, none⟩) hl _⟩

set_option maxRecDepth 10000 in
set_option maxHeartbeats 4000000 in
theorem apply_or_11 (op : ByteArray) (a b c d : Int) (w : World) (i1 : I64 a) (i2 : I64 b) (i3 : I64 c) (i4 : I64 d) (h0 : (op.toList == [43]) = false) (h1 : (op.toList == [45]) = false) (h2 : (op.toList == [42]) = false) (h3 : (op.toList == [47]) = false) (h4 : (op.toList == [109, 111, 100]) = false) (h5 : (op.toList == [94]) = false) (h6 : (op.toList == [114, 111, 117, 110, 100]) = false) (h7 : (op.toList == [61]) = false) (h8 : (op.toList == [60, 62]) = false) (h9 : (op.toList == [60]) = false) (h10 : (op.toList == [62]) = false) (h11 : (op.toList == [60, 61]) = false) (h12 : (op.toList == [62, 61]) = false) (h13 : (op.toList == [97, 110, 100]) = false) (ha : ¬ a = 0) :
    Calls Tryd.prog 43 #[.string op, .agg #[.int .i64 a, .int .i64 b], .agg #[.int .i64 c, .int .i64 d]] w fun e w' => e = .returned (.tuple #[.agg #[.int .i64 (1), .int .i64 (1)], .int .i64 (0)]) ∧ Below w.heap.size w w' := by
  have hC := cmp_any a b c d i1 i2 i3 i4
  unfold RetI at hC
  have g1 : (a != 0) = true := by simpa using ha
  have g2 : (a == 0) = false := by simpa using ha
  generalize cmpN a b c d = C at *
  clear ha
  have hT := truth_true
  go_enter Tryd.func43, Tryd.ntmps43
  go_wp2_with fail
  refine (hC _).mono ?_
  rintro e w1 ⟨rfl, hb1⟩
  change Below (W3 a b c d w).heap.size (W3 a b c d w) w1 at hb1
  have hb := (W3_below a b c d w).then_ hb1
  have KA := (W3_a a b c d w).on hb1
  have KB := (W3_b a b c d w).on hb1
  have KR := (W3_r a b c d w).on hb1
  have hl : w.heap.size ≤ w.heap.size + 1 + 1 := by omega
  obtain ⟨a10, a11⟩ := KA.two
  obtain ⟨b10, b11⟩ := KB.two
  go_wp2_with fail
  refine (hT _).mono ?_
  rintro e w2 ⟨rfl, hb2⟩
  replace hb := hb.then_ hb2
  replace KA := KA.on hb2
  replace KB := KB.on hb2
  replace KR := KR.on hb2
  clear a10 a11 b10 b11
  obtain ⟨a10, a11⟩ := KA.two
  obtain ⟨b10, b11⟩ := KB.two
  have q0 := KR.free 0
  have q1 := KR.free 1
  obtain ⟨r0, r1⟩ := KR.two
  have Kz : Known _ _ _ #[.int .i64 (1), .int .i64 (1)] := (KR.put 0 (.int .i64 (1))).put 1 (.int .i64 (1))
  obtain ⟨z0, z1⟩ := Kz.two
  go_wp2_with fail
  exact bodyPost_ret (v := .tuple #[.agg #[.int .i64 (1), .int .i64 (1)], .int .i64 (0)]) (by simp [results, Tryd.results43, go_sem, z0, z1]) rfl ⟨rfl, (hb.setCell (p := ⟨w.heap.size + 1 + 1, 0, none⟩) hl _).setCell (p := ⟨w.heap.size + 1 + 1, 1, none⟩) hl _⟩

theorem apply_any (op : ByteArray) (a b c d : Int) (v1 : Num.val a b = true) (v2 : Num.val c d = true) : Ret 43 #[.string op, .agg #[.int .i64 a, .int .i64 b], .agg #[.int .i64 c, .int .i64 d]] (applyV op a b c d) := by
  intro w
  obtain ⟨i1, i2⟩ := val_i64 v1
  obtain ⟨i3, i4⟩ := val_i64 v2
  unfold applyV
  by_cases h0 : op = ⟨#[43]⟩
  · rw [if_pos h0]; subst h0
    exact apply_plus a b c d w i1 i2 i3 i4
  rw [if_neg h0]
  by_cases h1 : op = ⟨#[45]⟩
  · rw [if_pos h1]; subst h1
    exact apply_minus a b c d w i1 i2 i3 i4
  rw [if_neg h1]
  by_cases h2 : op = ⟨#[42]⟩
  · rw [if_pos h2]; subst h2
    exact apply_times a b c d w i1 i2 i3 i4
  rw [if_neg h2]
  by_cases h3 : op = ⟨#[47]⟩
  · rw [if_pos h3]; subst h3
    exact apply_over a b c d w i1 i2 i3 i4
  rw [if_neg h3]
  by_cases h4 : op = ⟨#[109, 111, 100]⟩
  · rw [if_pos h4]; subst h4
    exact apply_mod a b c d w i1 i2 i3 i4
  rw [if_neg h4]
  by_cases h5 : op = ⟨#[94]⟩
  · rw [if_pos h5]; subst h5
    exact apply_hat a b c d w i1 i2 i3 i4 v1
  rw [if_neg h5]
  by_cases h6 : op = ⟨#[114, 111, 117, 110, 100]⟩
  · rw [if_pos h6]; subst h6
    unfold roundsV
    cases h : wholeB c d 0 9
    · exact apply_round_no a b c d w i1 i2 i3 i4 h
    · rw [if_pos rfl]; exact apply_round a b c d w i1 i2 i3 i4 h
  rw [if_neg h6]
  by_cases h7 : op = ⟨#[61]⟩
  · rw [if_pos h7]; subst h7
    cases g : (cmpN a b c d == 0)
    · exact apply_eq_false a b c d w i1 i2 i3 i4 g
    · exact apply_eq_true a b c d w i1 i2 i3 i4 g
  rw [if_neg h7]
  by_cases h8 : op = ⟨#[60, 62]⟩
  · rw [if_pos h8]; subst h8
    cases g : (cmpN a b c d != 0)
    · exact apply_ne_false a b c d w i1 i2 i3 i4 g
    · exact apply_ne_true a b c d w i1 i2 i3 i4 g
  rw [if_neg h8]
  by_cases h9 : op = ⟨#[60]⟩
  · rw [if_pos h9]; subst h9
    cases g : decide (cmpN a b c d < 0)
    · exact apply_lt_false a b c d w i1 i2 i3 i4 g
    · exact apply_lt_true a b c d w i1 i2 i3 i4 g
  rw [if_neg h9]
  by_cases h10 : op = ⟨#[62]⟩
  · rw [if_pos h10]; subst h10
    cases g : decide (0 < cmpN a b c d)
    · exact apply_gt_false a b c d w i1 i2 i3 i4 g
    · exact apply_gt_true a b c d w i1 i2 i3 i4 g
  rw [if_neg h10]
  by_cases h11 : op = ⟨#[60, 61]⟩
  · rw [if_pos h11]; subst h11
    cases g : decide (cmpN a b c d ≤ 0)
    · exact apply_le_false a b c d w i1 i2 i3 i4 g
    · exact apply_le_true a b c d w i1 i2 i3 i4 g
  rw [if_neg h11]
  by_cases h12 : op = ⟨#[62, 61]⟩
  · rw [if_pos h12]; subst h12
    cases g : decide (0 ≤ cmpN a b c d)
    · exact apply_ge_false a b c d w i1 i2 i3 i4 g
    · exact apply_ge_true a b c d w i1 i2 i3 i4 g
  rw [if_neg h12]
  by_cases h13 : op = ⟨#[97, 110, 100]⟩
  · rw [if_pos h13]; subst h13
    by_cases ha : a = 0
    · subst ha; exact apply_and_00 0 b c d w i1 i2 i3 i4 rfl
    · by_cases hc : c = 0
      · subst hc
        have g : (a != 0 && (0 : Int) != 0) = false := by simp
        rw [g]; exact apply_and_10 a b 0 d w i1 i2 i3 i4 ha rfl
      · have g : (a != 0 && c != 0) = true := by simp [ha, hc]
        rw [g]; exact apply_and_11 a b c d w i1 i2 i3 i4 ha hc
  rw [if_neg h13]
  by_cases ha : a = 0
  · by_cases hc : c = 0
    · have g : (a != 0 || c != 0) = false := by simp [ha, hc]
      rw [g]; exact apply_or_00 op a b c d w i1 i2 i3 i4 (str_nel h0) (str_nel h1) (str_nel h2) (str_nel h3) (str_nel h4) (str_nel h5) (str_nel h6) (str_nel h7) (str_nel h8) (str_nel h9) (str_nel h10) (str_nel h11) (str_nel h12) (str_nel h13) ha hc
    · have g : (a != 0 || c != 0) = true := by simp [hc]
      rw [g]; exact apply_or_01 op a b c d w i1 i2 i3 i4 (str_nel h0) (str_nel h1) (str_nel h2) (str_nel h3) (str_nel h4) (str_nel h5) (str_nel h6) (str_nel h7) (str_nel h8) (str_nel h9) (str_nel h10) (str_nel h11) (str_nel h12) (str_nel h13) ha hc
  · have g : (a != 0 || c != 0) = true := by simp [ha]
    rw [g]; exact apply_or_11 op a b c d w i1 i2 i3 i4 (str_nel h0) (str_nel h1) (str_nel h2) (str_nel h3) (str_nel h4) (str_nel h5) (str_nel h6) (str_nel h7) (str_nel h8) (str_nel h9) (str_nel h10) (str_nel h11) (str_nel h12) (str_nel h13) ha
end Go.Proofs.YtlkfnpmcihfjmaaDoor
