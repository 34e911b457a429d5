/-
  The operations on numbers, by the program and by the reference. Conditions: those typed in each theorem.
-/
import Derived.Test.YtlkfnpmcihfjmaaDoorBle

namespace Go.Proofs.YtlkfnpmcihfjmaaDoor
open Go.RowKit

def I64 (n : Int) : Prop := -9223372036854775808 ≤ n ∧ n ≤ 9223372036854775807

theorem mul_bd {x y : Int} (h1 : -1000000000 ≤ x) (h2 : x ≤ 1000000000) (h3 : -1000000000 ≤ y) (h4 : y ≤ 1000000000) : -1000000000000000000 ≤ x * y ∧ x * y ≤ 1000000000000000000 := by
  have h := Int.natAbs_mul x y
  have h' : x.natAbs * y.natAbs ≤ 1000000000 * 1000000000 := Nat.mul_le_mul (by omega) (by omega)
  omega

/-- the blocks of two numbers and of the result -/
def W3 (a b c d : Int) (w : World) : World := ((w.alloc (.cells #[.int .i64 a, .int .i64 b] 23)).alloc (.cells #[.int .i64 c, .int .i64 d] 23)).alloc (.cells #[.int .i64 0, .int .i64 0] 23)
theorem W3_below (a b c d : Int) (w : World) : Below w.heap.size w (W3 a b c d w) := ((below_new0 w _).then_ (below_new0 _ _)).then_ (below_new0 _ _)
theorem W3_a (a b c d : Int) (w : World) : Known (W3 a b c d w) w.heap.size 23 #[.int .i64 a, .int .i64 b] := ((Known.made w _ _).alloc _).alloc _
theorem W3_b (a b c d : Int) (w : World) : Known (W3 a b c d w) (w.heap.size + 1) 23 #[.int .i64 c, .int .i64 d] := by
  have := (Known.made (w.alloc (.cells #[.int .i64 a, .int .i64 b] 23)) 23 #[.int .i64 c, .int .i64 d]).alloc (.cells #[.int .i64 0, .int .i64 0] 23)
  rw [show (w.alloc (.cells #[.int .i64 a, .int .i64 b] 23)).heap.size = w.heap.size + 1 by simp] at this
  exact this
theorem W3_r (a b c d : Int) (w : World) : Known (W3 a b c d w) (w.heap.size + 1 + 1) 23 #[.int .i64 0, .int .i64 0] := by
  have := Known.made ((w.alloc (.cells #[.int .i64 a, .int .i64 b] 23)).alloc (.cells #[.int .i64 c, .int .i64 d] 23)) 23 #[.int .i64 0, .int .i64 0]
  rw [show ((w.alloc (.cells #[.int .i64 a, .int .i64 b] 23)).alloc (.cells #[.int .i64 c, .int .i64 d] 23)).heap.size = w.heap.size + 1 + 1 by simp] at this
  exact this

set_option maxHeartbeats 1000000 in
theorem addP_no1 (a b c d : Int) (w : World) (i1 : I64 a) (i2 : I64 b) (_i3 : I64 c) (_i4 : I64 d) (v1 : Num.val a b = false) :
    Calls Tryd.prog 66 #[.agg #[.int .i64 a, .int .i64 b], .agg #[.int .i64 c, .int .i64 d]] w fun e w' => e = .returned (.tuple #[.agg #[.int .i64 0, .int .i64 0], .int .i64 7]) ∧ Below w.heap.size w w' := by
  go_enter Tryd.func66, Tryd.ntmps66
  go_wp2_with fail
  refine (valid_any a b _ i1 i2).mono ?_
  rintro e w1 ⟨rfl, hb1⟩
  rw [v1]
  change Below (W3 a b c d w).heap.size (W3 a b c d w) w1 at hb1
  have hb := (W3_below a b c d w).then_ hb1
  have KA := (W3_a a b c d w).on hb1
  have KB := (W3_b a b c d w).on hb1
  have KR := (W3_r a b c d w).on hb1
  have hs : w.heap.size ≤ w.heap.size + 1 + 1 := by omega
  obtain ⟨a10, a11⟩ := KA.two
  obtain ⟨b10, b11⟩ := KB.two
  obtain ⟨r10, r11⟩ := KR.two
  have q10 := KR.free 0
  have q11 := KR.free 1
  have Kz : Known _ _ _ #[.int .i64 0, .int .i64 0] := (KR.put 0 (.int .i64 0)).put 1 (.int .i64 0)
  obtain ⟨z0, z1⟩ := Kz.two
  go_wp2
  exact bodyPost_ret (v := .tuple #[.agg #[.int .i64 0, .int .i64 0], .int .i64 7]) (by simp [results, Tryd.results66, go_sem, z0, z1]) rfl ⟨rfl, (hb.setCell (p := ⟨w.heap.size + 1 + 1, 0, none⟩) hs _).setCell (p := ⟨w.heap.size + 1 + 1, 1, none⟩) hs _⟩

set_option maxHeartbeats 1000000 in
theorem addP_no2 (a b c d : Int) (w : World) (i1 : I64 a) (i2 : I64 b) (i3 : I64 c) (i4 : I64 d) (v1 : Num.val a b = true) (v2 : Num.val c d = false) :
    Calls Tryd.prog 66 #[.agg #[.int .i64 a, .int .i64 b], .agg #[.int .i64 c, .int .i64 d]] w fun e w' => e = .returned (.tuple #[.agg #[.int .i64 0, .int .i64 0], .int .i64 7]) ∧ Below w.heap.size w w' := by
  go_enter Tryd.func66, Tryd.ntmps66
  go_wp2_with fail
  refine (valid_any a b _ i1 i2).mono ?_
  rintro e w1 ⟨rfl, hb1⟩
  rw [v1]
  change Below (W3 a b c d w).heap.size (W3 a b c d w) w1 at hb1
  have hb := (W3_below a b c d w).then_ hb1
  have KA := (W3_a a b c d w).on hb1
  have KB := (W3_b a b c d w).on hb1
  have KR := (W3_r a b c d w).on hb1
  have hs : w.heap.size ≤ w.heap.size + 1 + 1 := by omega
  obtain ⟨a10, a11⟩ := KA.two
  obtain ⟨b10, b11⟩ := KB.two
  obtain ⟨r10, r11⟩ := KR.two
  have q10 := KR.free 0
  have q11 := KR.free 1
  go_wp2_with fail
  refine (valid_any c d _ i3 i4).mono ?_
  rintro e w2 ⟨rfl, hb2⟩
  rw [v2]
  replace hb := hb.then_ hb2
  replace KA := KA.on hb2
  replace KB := KB.on hb2
  replace KR := KR.on hb2
  obtain ⟨a20, a21⟩ := KA.two
  obtain ⟨b20, b21⟩ := KB.two
  obtain ⟨r20, r21⟩ := KR.two
  have q20 := KR.free 0
  have q21 := KR.free 1
  have Kz : Known _ _ _ #[.int .i64 0, .int .i64 0] := (KR.put 0 (.int .i64 0)).put 1 (.int .i64 0)
  obtain ⟨z0, z1⟩ := Kz.two
  go_wp2
  exact bodyPost_ret (v := .tuple #[.agg #[.int .i64 0, .int .i64 0], .int .i64 7]) (by simp [results, Tryd.results66, go_sem, z0, z1]) rfl ⟨rfl, (hb.setCell (p := ⟨w.heap.size + 1 + 1, 0, none⟩) hs _).setCell (p := ⟨w.heap.size + 1 + 1, 1, none⟩) hs _⟩

set_option maxHeartbeats 1000000 in
theorem addP_ok (a b c d : Int) (w : World) (i1 : I64 a) (i2 : I64 b) (i3 : I64 c) (i4 : I64 d) (v1 : Num.val a b = true) (v2 : Num.val c d = true) :
    Calls Tryd.prog 66 #[.agg #[.int .i64 a, .int .i64 b], .agg #[.int .i64 c, .int .i64 d]] w fun e w' => e = .returned (.tuple #[.agg #[.int .i64 (Num.redN (a * d + c * b) (b * d)), .int .i64 (Num.redD (a * d + c * b) (b * d))], .int .i64 (Num.redE (a * d + c * b) (b * d))]) ∧ Below w.heap.size w w' := by
  obtain ⟨k1, k2, k3, k4, k5⟩ := Num.val_iff.1 v1
  obtain ⟨l1, l2, l3, l4, l5⟩ := Num.val_iff.1 v2
  obtain ⟨m1, m2⟩ := mul_bd k1 k2 (show -1000000000 ≤ d by omega) l4
  obtain ⟨m3, m4⟩ := mul_bd l1 l2 (show -1000000000 ≤ b by omega) k4
  obtain ⟨m5, m6⟩ := mul_bd (show -1000000000 ≤ b by omega) k4 (show -1000000000 ≤ d by omega) l4
  obtain ⟨m7, m8⟩ := mul_bd k1 k2 l1 l2
  obtain ⟨m9, m10⟩ := mul_bd (show -1000000000 ≤ b by omega) k4 l1 l2
  have hn : b * d ≠ 0 := Int.mul_ne_zero (by omega) (by omega)
  go_enter Tryd.func66, Tryd.ntmps66
  go_wp2_with fail
  refine (valid_any a b _ i1 i2).mono ?_
  rintro e w1 ⟨rfl, hb1⟩
  rw [v1]
  change Below (W3 a b c d w).heap.size (W3 a b c d w) w1 at hb1
  have hb := (W3_below a b c d w).then_ hb1
  have KA := (W3_a a b c d w).on hb1
  have KB := (W3_b a b c d w).on hb1
  have KR := (W3_r a b c d w).on hb1
  have hs : w.heap.size ≤ w.heap.size + 1 + 1 := by omega
  obtain ⟨a10, a11⟩ := KA.two
  obtain ⟨b10, b11⟩ := KB.two
  obtain ⟨r10, r11⟩ := KR.two
  have q10 := KR.free 0
  have q11 := KR.free 1
  go_wp2_with fail
  refine (valid_any c d _ i3 i4).mono ?_
  rintro e w2 ⟨rfl, hb2⟩
  rw [v2]
  replace hb := hb.then_ hb2
  replace KA := KA.on hb2
  replace KB := KB.on hb2
  replace KR := KR.on hb2
  obtain ⟨a20, a21⟩ := KA.two
  obtain ⟨b20, b21⟩ := KB.two
  obtain ⟨r20, r21⟩ := KR.two
  have q20 := KR.free 0
  have q21 := KR.free 1
  go_wp2_with fail
  refine (reduce_any (a * d + c * b) (b * d) _ hn (by omega) (by omega) (by omega) (by omega)).mono ?_
  rintro e w3 ⟨rfl, hb3⟩
  replace hb := hb.then_ hb3
  replace KR := KR.on hb3
  obtain ⟨r30, r31⟩ := KR.two
  have q30 := KR.free 0
  have q31 := KR.free 1
  have Kz : Known _ _ _ #[.int .i64 (Num.redN (a * d + c * b) (b * d)), .int .i64 (Num.redD (a * d + c * b) (b * d))] := (KR.put 0 (.int .i64 (Num.redN (a * d + c * b) (b * d)))).put 1 (.int .i64 (Num.redD (a * d + c * b) (b * d)))
  obtain ⟨z0, z1⟩ := Kz.two
  go_wp2
  exact bodyPost_ret (v := .tuple #[.agg #[.int .i64 (Num.redN (a * d + c * b) (b * d)), .int .i64 (Num.redD (a * d + c * b) (b * d))], .int .i64 (Num.redE (a * d + c * b) (b * d))]) (by simp [results, Tryd.results66, go_sem, z0, z1]) rfl ⟨rfl, (hb.setCell (p := ⟨w.heap.size + 1 + 1, 0, none⟩) hs _).setCell (p := ⟨w.heap.size + 1 + 1, 1, none⟩) hs _⟩

set_option maxHeartbeats 1000000 in
theorem addR_no1 (a b c d : Int) (w : World) (i1 : I64 a) (i2 : I64 b) (_i3 : I64 c) (_i4 : I64 d) (v1 : Num.val a b = false) :
    Calls Tryd.prog 12 #[.agg #[.int .i64 a, .int .i64 b], .agg #[.int .i64 c, .int .i64 d]] w fun e w' => e = .returned (.tuple #[.agg #[.int .i64 0, .int .i64 0], .int .i64 7]) ∧ Below w.heap.size w w' := by
  go_enter Tryd.func12, Tryd.ntmps12
  go_wp2_with fail
  refine (validRef_any a b _ i1 i2).mono ?_
  rintro e w1 ⟨rfl, hb1⟩
  rw [v1]
  change Below (W3 a b c d w).heap.size (W3 a b c d w) w1 at hb1
  have hb := (W3_below a b c d w).then_ hb1
  have KA := (W3_a a b c d w).on hb1
  have KB := (W3_b a b c d w).on hb1
  have KR := (W3_r a b c d w).on hb1
  have hs : w.heap.size ≤ w.heap.size + 1 + 1 := by omega
  obtain ⟨a10, a11⟩ := KA.two
  obtain ⟨b10, b11⟩ := KB.two
  obtain ⟨r10, r11⟩ := KR.two
  have q10 := KR.free 0
  have q11 := KR.free 1
  have Kz : Known _ _ _ #[.int .i64 0, .int .i64 0] := (KR.put 0 (.int .i64 0)).put 1 (.int .i64 0)
  obtain ⟨z0, z1⟩ := Kz.two
  go_wp2
  exact bodyPost_ret (v := .tuple #[.agg #[.int .i64 0, .int .i64 0], .int .i64 7]) (by simp [results, Tryd.results12, go_sem, z0, z1]) rfl ⟨rfl, (hb.setCell (p := ⟨w.heap.size + 1 + 1, 0, none⟩) hs _).setCell (p := ⟨w.heap.size + 1 + 1, 1, none⟩) hs _⟩

set_option maxHeartbeats 1000000 in
theorem addR_no2 (a b c d : Int) (w : World) (i1 : I64 a) (i2 : I64 b) (i3 : I64 c) (i4 : I64 d) (v1 : Num.val a b = true) (v2 : Num.val c d = false) :
    Calls Tryd.prog 12 #[.agg #[.int .i64 a, .int .i64 b], .agg #[.int .i64 c, .int .i64 d]] w fun e w' => e = .returned (.tuple #[.agg #[.int .i64 0, .int .i64 0], .int .i64 7]) ∧ Below w.heap.size w w' := by
  go_enter Tryd.func12, Tryd.ntmps12
  go_wp2_with fail
  refine (validRef_any a b _ i1 i2).mono ?_
  rintro e w1 ⟨rfl, hb1⟩
  rw [v1]
  change Below (W3 a b c d w).heap.size (W3 a b c d w) w1 at hb1
  have hb := (W3_below a b c d w).then_ hb1
  have KA := (W3_a a b c d w).on hb1
  have KB := (W3_b a b c d w).on hb1
  have KR := (W3_r a b c d w).on hb1
  have hs : w.heap.size ≤ w.heap.size + 1 + 1 := by omega
  obtain ⟨a10, a11⟩ := KA.two
  obtain ⟨b10, b11⟩ := KB.two
  obtain ⟨r10, r11⟩ := KR.two
  have q10 := KR.free 0
  have q11 := KR.free 1
  go_wp2_with fail
  refine (validRef_any c d _ i3 i4).mono ?_
  rintro e w2 ⟨rfl, hb2⟩
  rw [v2]
  replace hb := hb.then_ hb2
  replace KA := KA.on hb2
  replace KB := KB.on hb2
  replace KR := KR.on hb2
  obtain ⟨a20, a21⟩ := KA.two
  obtain ⟨b20, b21⟩ := KB.two
  obtain ⟨r20, r21⟩ := KR.two
  have q20 := KR.free 0
  have q21 := KR.free 1
  have Kz : Known _ _ _ #[.int .i64 0, .int .i64 0] := (KR.put 0 (.int .i64 0)).put 1 (.int .i64 0)
  obtain ⟨z0, z1⟩ := Kz.two
  go_wp2
  exact bodyPost_ret (v := .tuple #[.agg #[.int .i64 0, .int .i64 0], .int .i64 7]) (by simp [results, Tryd.results12, go_sem, z0, z1]) rfl ⟨rfl, (hb.setCell (p := ⟨w.heap.size + 1 + 1, 0, none⟩) hs _).setCell (p := ⟨w.heap.size + 1 + 1, 1, none⟩) hs _⟩

set_option maxHeartbeats 1000000 in
theorem addR_ok (a b c d : Int) (w : World) (i1 : I64 a) (i2 : I64 b) (i3 : I64 c) (i4 : I64 d) (v1 : Num.val a b = true) (v2 : Num.val c d = true) :
    Calls Tryd.prog 12 #[.agg #[.int .i64 a, .int .i64 b], .agg #[.int .i64 c, .int .i64 d]] w fun e w' => e = .returned (.tuple #[.agg #[.int .i64 (Num.redN (a * d + c * b) (b * d)), .int .i64 (Num.redD (a * d + c * b) (b * d))], .int .i64 (Num.redE (a * d + c * b) (b * d))]) ∧ Below w.heap.size w w' := by
  obtain ⟨k1, k2, k3, k4, k5⟩ := Num.val_iff.1 v1
  obtain ⟨l1, l2, l3, l4, l5⟩ := Num.val_iff.1 v2
  obtain ⟨m1, m2⟩ := mul_bd k1 k2 (show -1000000000 ≤ d by omega) l4
  obtain ⟨m3, m4⟩ := mul_bd l1 l2 (show -1000000000 ≤ b by omega) k4
  obtain ⟨m5, m6⟩ := mul_bd (show -1000000000 ≤ b by omega) k4 (show -1000000000 ≤ d by omega) l4
  obtain ⟨m7, m8⟩ := mul_bd k1 k2 l1 l2
  obtain ⟨m9, m10⟩ := mul_bd (show -1000000000 ≤ b by omega) k4 l1 l2
  have hn : b * d ≠ 0 := Int.mul_ne_zero (by omega) (by omega)
  go_enter Tryd.func12, Tryd.ntmps12
  go_wp2_with fail
  refine (validRef_any a b _ i1 i2).mono ?_
  rintro e w1 ⟨rfl, hb1⟩
  rw [v1]
  change Below (W3 a b c d w).heap.size (W3 a b c d w) w1 at hb1
  have hb := (W3_below a b c d w).then_ hb1
  have KA := (W3_a a b c d w).on hb1
  have KB := (W3_b a b c d w).on hb1
  have KR := (W3_r a b c d w).on hb1
  have hs : w.heap.size ≤ w.heap.size + 1 + 1 := by omega
  obtain ⟨a10, a11⟩ := KA.two
  obtain ⟨b10, b11⟩ := KB.two
  obtain ⟨r10, r11⟩ := KR.two
  have q10 := KR.free 0
  have q11 := KR.free 1
  go_wp2_with fail
  refine (validRef_any c d _ i3 i4).mono ?_
  rintro e w2 ⟨rfl, hb2⟩
  rw [v2]
  replace hb := hb.then_ hb2
  replace KA := KA.on hb2
  replace KB := KB.on hb2
  replace KR := KR.on hb2
  obtain ⟨a20, a21⟩ := KA.two
  obtain ⟨b20, b21⟩ := KB.two
  obtain ⟨r20, r21⟩ := KR.two
  have q20 := KR.free 0
  have q21 := KR.free 1
  go_wp2_with fail
  refine (form_any (a * d + c * b) (b * d) _ hn (by omega) (by omega) (by omega) (by omega)).mono ?_
  rintro e w3 ⟨rfl, hb3⟩
  replace hb := hb.then_ hb3
  replace KR := KR.on hb3
  obtain ⟨r30, r31⟩ := KR.two
  have q30 := KR.free 0
  have q31 := KR.free 1
  have Kz : Known _ _ _ #[.int .i64 (Num.redN (a * d + c * b) (b * d)), .int .i64 (Num.redD (a * d + c * b) (b * d))] := (KR.put 0 (.int .i64 (Num.redN (a * d + c * b) (b * d)))).put 1 (.int .i64 (Num.redD (a * d + c * b) (b * d)))
  obtain ⟨z0, z1⟩ := Kz.two
  go_wp2
  exact bodyPost_ret (v := .tuple #[.agg #[.int .i64 (Num.redN (a * d + c * b) (b * d)), .int .i64 (Num.redD (a * d + c * b) (b * d))], .int .i64 (Num.redE (a * d + c * b) (b * d))]) (by simp [results, Tryd.results12, go_sem, z0, z1]) rfl ⟨rfl, (hb.setCell (p := ⟨w.heap.size + 1 + 1, 0, none⟩) hs _).setCell (p := ⟨w.heap.size + 1 + 1, 1, none⟩) hs _⟩

set_option maxHeartbeats 1000000 in
theorem subP_no1 (a b c d : Int) (w : World) (i1 : I64 a) (i2 : I64 b) (_i3 : I64 c) (_i4 : I64 d) (v1 : Num.val a b = false) :
    Calls Tryd.prog 61 #[.agg #[.int .i64 a, .int .i64 b], .agg #[.int .i64 c, .int .i64 d]] w fun e w' => e = .returned (.tuple #[.agg #[.int .i64 0, .int .i64 0], .int .i64 7]) ∧ Below w.heap.size w w' := by
  go_enter Tryd.func61, Tryd.ntmps61
  go_wp2_with fail
  refine (valid_any a b _ i1 i2).mono ?_
  rintro e w1 ⟨rfl, hb1⟩
  rw [v1]
  change Below (W3 a b c d w).heap.size (W3 a b c d w) w1 at hb1
  have hb := (W3_below a b c d w).then_ hb1
  have KA := (W3_a a b c d w).on hb1
  have KB := (W3_b a b c d w).on hb1
  have KR := (W3_r a b c d w).on hb1
  have hs : w.heap.size ≤ w.heap.size + 1 + 1 := by omega
  obtain ⟨a10, a11⟩ := KA.two
  obtain ⟨b10, b11⟩ := KB.two
  obtain ⟨r10, r11⟩ := KR.two
  have q10 := KR.free 0
  have q11 := KR.free 1
  have Kz : Known _ _ _ #[.int .i64 0, .int .i64 0] := (KR.put 0 (.int .i64 0)).put 1 (.int .i64 0)
  obtain ⟨z0, z1⟩ := Kz.two
  go_wp2
  exact bodyPost_ret (v := .tuple #[.agg #[.int .i64 0, .int .i64 0], .int .i64 7]) (by simp [results, Tryd.results61, go_sem, z0, z1]) rfl ⟨rfl, (hb.setCell (p := ⟨w.heap.size + 1 + 1, 0, none⟩) hs _).setCell (p := ⟨w.heap.size + 1 + 1, 1, none⟩) hs _⟩

set_option maxHeartbeats 1000000 in
theorem subP_no2 (a b c d : Int) (w : World) (i1 : I64 a) (i2 : I64 b) (i3 : I64 c) (i4 : I64 d) (v1 : Num.val a b = true) (v2 : Num.val c d = false) :
    Calls Tryd.prog 61 #[.agg #[.int .i64 a, .int .i64 b], .agg #[.int .i64 c, .int .i64 d]] w fun e w' => e = .returned (.tuple #[.agg #[.int .i64 0, .int .i64 0], .int .i64 7]) ∧ Below w.heap.size w w' := by
  go_enter Tryd.func61, Tryd.ntmps61
  go_wp2_with fail
  refine (valid_any a b _ i1 i2).mono ?_
  rintro e w1 ⟨rfl, hb1⟩
  rw [v1]
  change Below (W3 a b c d w).heap.size (W3 a b c d w) w1 at hb1
  have hb := (W3_below a b c d w).then_ hb1
  have KA := (W3_a a b c d w).on hb1
  have KB := (W3_b a b c d w).on hb1
  have KR := (W3_r a b c d w).on hb1
  have hs : w.heap.size ≤ w.heap.size + 1 + 1 := by omega
  obtain ⟨a10, a11⟩ := KA.two
  obtain ⟨b10, b11⟩ := KB.two
  obtain ⟨r10, r11⟩ := KR.two
  have q10 := KR.free 0
  have q11 := KR.free 1
  go_wp2_with fail
  refine (valid_any c d _ i3 i4).mono ?_
  rintro e w2 ⟨rfl, hb2⟩
  rw [v2]
  replace hb := hb.then_ hb2
  replace KA := KA.on hb2
  replace KB := KB.on hb2
  replace KR := KR.on hb2
  obtain ⟨a20, a21⟩ := KA.two
  obtain ⟨b20, b21⟩ := KB.two
  obtain ⟨r20, r21⟩ := KR.two
  have q20 := KR.free 0
  have q21 := KR.free 1
  have Kz : Known _ _ _ #[.int .i64 0, .int .i64 0] := (KR.put 0 (.int .i64 0)).put 1 (.int .i64 0)
  obtain ⟨z0, z1⟩ := Kz.two
  go_wp2
  exact bodyPost_ret (v := .tuple #[.agg #[.int .i64 0, .int .i64 0], .int .i64 7]) (by simp [results, Tryd.results61, go_sem, z0, z1]) rfl ⟨rfl, (hb.setCell (p := ⟨w.heap.size + 1 + 1, 0, none⟩) hs _).setCell (p := ⟨w.heap.size + 1 + 1, 1, none⟩) hs _⟩

set_option maxHeartbeats 1000000 in
theorem subP_ok (a b c d : Int) (w : World) (i1 : I64 a) (i2 : I64 b) (i3 : I64 c) (i4 : I64 d) (v1 : Num.val a b = true) (v2 : Num.val c d = true) :
    Calls Tryd.prog 61 #[.agg #[.int .i64 a, .int .i64 b], .agg #[.int .i64 c, .int .i64 d]] w fun e w' => e = .returned (.tuple #[.agg #[.int .i64 (Num.redN (a * d - c * b) (b * d)), .int .i64 (Num.redD (a * d - c * b) (b * d))], .int .i64 (Num.redE (a * d - c * b) (b * d))]) ∧ Below w.heap.size w w' := by
  obtain ⟨k1, k2, k3, k4, k5⟩ := Num.val_iff.1 v1
  obtain ⟨l1, l2, l3, l4, l5⟩ := Num.val_iff.1 v2
  obtain ⟨m1, m2⟩ := mul_bd k1 k2 (show -1000000000 ≤ d by omega) l4
  obtain ⟨m3, m4⟩ := mul_bd l1 l2 (show -1000000000 ≤ b by omega) k4
  obtain ⟨m5, m6⟩ := mul_bd (show -1000000000 ≤ b by omega) k4 (show -1000000000 ≤ d by omega) l4
  obtain ⟨m7, m8⟩ := mul_bd k1 k2 l1 l2
  obtain ⟨m9, m10⟩ := mul_bd (show -1000000000 ≤ b by omega) k4 l1 l2
  have hn : b * d ≠ 0 := Int.mul_ne_zero (by omega) (by omega)
  go_enter Tryd.func61, Tryd.ntmps61
  go_wp2_with fail
  refine (valid_any a b _ i1 i2).mono ?_
  rintro e w1 ⟨rfl, hb1⟩
  rw [v1]
  change Below (W3 a b c d w).heap.size (W3 a b c d w) w1 at hb1
  have hb := (W3_below a b c d w).then_ hb1
  have KA := (W3_a a b c d w).on hb1
  have KB := (W3_b a b c d w).on hb1
  have KR := (W3_r a b c d w).on hb1
  have hs : w.heap.size ≤ w.heap.size + 1 + 1 := by omega
  obtain ⟨a10, a11⟩ := KA.two
  obtain ⟨b10, b11⟩ := KB.two
  obtain ⟨r10, r11⟩ := KR.two
  have q10 := KR.free 0
  have q11 := KR.free 1
  go_wp2_with fail
  refine (valid_any c d _ i3 i4).mono ?_
  rintro e w2 ⟨rfl, hb2⟩
  rw [v2]
  replace hb := hb.then_ hb2
  replace KA := KA.on hb2
  replace KB := KB.on hb2
  replace KR := KR.on hb2
  obtain ⟨a20, a21⟩ := KA.two
  obtain ⟨b20, b21⟩ := KB.two
  obtain ⟨r20, r21⟩ := KR.two
  have q20 := KR.free 0
  have q21 := KR.free 1
  go_wp2_with fail
  refine (reduce_any (a * d - c * b) (b * d) _ hn (by omega) (by omega) (by omega) (by omega)).mono ?_
  rintro e w3 ⟨rfl, hb3⟩
  replace hb := hb.then_ hb3
  replace KR := KR.on hb3
  obtain ⟨r30, r31⟩ := KR.two
  have q30 := KR.free 0
  have q31 := KR.free 1
  have Kz : Known _ _ _ #[.int .i64 (Num.redN (a * d - c * b) (b * d)), .int .i64 (Num.redD (a * d - c * b) (b * d))] := (KR.put 0 (.int .i64 (Num.redN (a * d - c * b) (b * d)))).put 1 (.int .i64 (Num.redD (a * d - c * b) (b * d)))
  obtain ⟨z0, z1⟩ := Kz.two
  go_wp2
  exact bodyPost_ret (v := .tuple #[.agg #[.int .i64 (Num.redN (a * d - c * b) (b * d)), .int .i64 (Num.redD (a * d - c * b) (b * d))], .int .i64 (Num.redE (a * d - c * b) (b * d))]) (by simp [results, Tryd.results61, go_sem, z0, z1]) rfl ⟨rfl, (hb.setCell (p := ⟨w.heap.size + 1 + 1, 0, none⟩) hs _).setCell (p := ⟨w.heap.size + 1 + 1, 1, none⟩) hs _⟩

set_option maxHeartbeats 1000000 in
theorem subR_no1 (a b c d : Int) (w : World) (i1 : I64 a) (i2 : I64 b) (_i3 : I64 c) (_i4 : I64 d) (v1 : Num.val a b = false) :
    Calls Tryd.prog 13 #[.agg #[.int .i64 a, .int .i64 b], .agg #[.int .i64 c, .int .i64 d]] w fun e w' => e = .returned (.tuple #[.agg #[.int .i64 0, .int .i64 0], .int .i64 7]) ∧ Below w.heap.size w w' := by
  go_enter Tryd.func13, Tryd.ntmps13
  go_wp2_with fail
  refine (validRef_any a b _ i1 i2).mono ?_
  rintro e w1 ⟨rfl, hb1⟩
  rw [v1]
  change Below (W3 a b c d w).heap.size (W3 a b c d w) w1 at hb1
  have hb := (W3_below a b c d w).then_ hb1
  have KA := (W3_a a b c d w).on hb1
  have KB := (W3_b a b c d w).on hb1
  have KR := (W3_r a b c d w).on hb1
  have hs : w.heap.size ≤ w.heap.size + 1 + 1 := by omega
  obtain ⟨a10, a11⟩ := KA.two
  obtain ⟨b10, b11⟩ := KB.two
  obtain ⟨r10, r11⟩ := KR.two
  have q10 := KR.free 0
  have q11 := KR.free 1
  have Kz : Known _ _ _ #[.int .i64 0, .int .i64 0] := (KR.put 0 (.int .i64 0)).put 1 (.int .i64 0)
  obtain ⟨z0, z1⟩ := Kz.two
  go_wp2
  exact bodyPost_ret (v := .tuple #[.agg #[.int .i64 0, .int .i64 0], .int .i64 7]) (by simp [results, Tryd.results13, go_sem, z0, z1]) rfl ⟨rfl, (hb.setCell (p := ⟨w.heap.size + 1 + 1, 0, none⟩) hs _).setCell (p := ⟨w.heap.size + 1 + 1, 1, none⟩) hs _⟩

set_option maxHeartbeats 1000000 in
theorem subR_no2 (a b c d : Int) (w : World) (i1 : I64 a) (i2 : I64 b) (i3 : I64 c) (i4 : I64 d) (v1 : Num.val a b = true) (v2 : Num.val c d = false) :
    Calls Tryd.prog 13 #[.agg #[.int .i64 a, .int .i64 b], .agg #[.int .i64 c, .int .i64 d]] w fun e w' => e = .returned (.tuple #[.agg #[.int .i64 0, .int .i64 0], .int .i64 7]) ∧ Below w.heap.size w w' := by
  go_enter Tryd.func13, Tryd.ntmps13
  go_wp2_with fail
  refine (validRef_any a b _ i1 i2).mono ?_
  rintro e w1 ⟨rfl, hb1⟩
  rw [v1]
  change Below (W3 a b c d w).heap.size (W3 a b c d w) w1 at hb1
  have hb := (W3_below a b c d w).then_ hb1
  have KA := (W3_a a b c d w).on hb1
  have KB := (W3_b a b c d w).on hb1
  have KR := (W3_r a b c d w).on hb1
  have hs : w.heap.size ≤ w.heap.size + 1 + 1 := by omega
  obtain ⟨a10, a11⟩ := KA.two
  obtain ⟨b10, b11⟩ := KB.two
  obtain ⟨r10, r11⟩ := KR.two
  have q10 := KR.free 0
  have q11 := KR.free 1
  go_wp2_with fail
  refine (validRef_any c d _ i3 i4).mono ?_
  rintro e w2 ⟨rfl, hb2⟩
  rw [v2]
  replace hb := hb.then_ hb2
  replace KA := KA.on hb2
  replace KB := KB.on hb2
  replace KR := KR.on hb2
  obtain ⟨a20, a21⟩ := KA.two
  obtain ⟨b20, b21⟩ := KB.two
  obtain ⟨r20, r21⟩ := KR.two
  have q20 := KR.free 0
  have q21 := KR.free 1
  have Kz : Known _ _ _ #[.int .i64 0, .int .i64 0] := (KR.put 0 (.int .i64 0)).put 1 (.int .i64 0)
  obtain ⟨z0, z1⟩ := Kz.two
  go_wp2
  exact bodyPost_ret (v := .tuple #[.agg #[.int .i64 0, .int .i64 0], .int .i64 7]) (by simp [results, Tryd.results13, go_sem, z0, z1]) rfl ⟨rfl, (hb.setCell (p := ⟨w.heap.size + 1 + 1, 0, none⟩) hs _).setCell (p := ⟨w.heap.size + 1 + 1, 1, none⟩) hs _⟩

set_option maxHeartbeats 1000000 in
theorem subR_ok (a b c d : Int) (w : World) (i1 : I64 a) (i2 : I64 b) (i3 : I64 c) (i4 : I64 d) (v1 : Num.val a b = true) (v2 : Num.val c d = true) :
    Calls Tryd.prog 13 #[.agg #[.int .i64 a, .int .i64 b], .agg #[.int .i64 c, .int .i64 d]] w fun e w' => e = .returned (.tuple #[.agg #[.int .i64 (Num.redN (a * d - c * b) (b * d)), .int .i64 (Num.redD (a * d - c * b) (b * d))], .int .i64 (Num.redE (a * d - c * b) (b * d))]) ∧ Below w.heap.size w w' := by
  obtain ⟨k1, k2, k3, k4, k5⟩ := Num.val_iff.1 v1
  obtain ⟨l1, l2, l3, l4, l5⟩ := Num.val_iff.1 v2
  obtain ⟨m1, m2⟩ := mul_bd k1 k2 (show -1000000000 ≤ d by omega) l4
  obtain ⟨m3, m4⟩ := mul_bd l1 l2 (show -1000000000 ≤ b by omega) k4
  obtain ⟨m5, m6⟩ := mul_bd (show -1000000000 ≤ b by omega) k4 (show -1000000000 ≤ d by omega) l4
  obtain ⟨m7, m8⟩ := mul_bd k1 k2 l1 l2
  obtain ⟨m9, m10⟩ := mul_bd (show -1000000000 ≤ b by omega) k4 l1 l2
  have hn : b * d ≠ 0 := Int.mul_ne_zero (by omega) (by omega)
  go_enter Tryd.func13, Tryd.ntmps13
  go_wp2_with fail
  refine (validRef_any a b _ i1 i2).mono ?_
  rintro e w1 ⟨rfl, hb1⟩
  rw [v1]
  change Below (W3 a b c d w).heap.size (W3 a b c d w) w1 at hb1
  have hb := (W3_below a b c d w).then_ hb1
  have KA := (W3_a a b c d w).on hb1
  have KB := (W3_b a b c d w).on hb1
  have KR := (W3_r a b c d w).on hb1
  have hs : w.heap.size ≤ w.heap.size + 1 + 1 := by omega
  obtain ⟨a10, a11⟩ := KA.two
  obtain ⟨b10, b11⟩ := KB.two
  obtain ⟨r10, r11⟩ := KR.two
  have q10 := KR.free 0
  have q11 := KR.free 1
  go_wp2_with fail
  refine (validRef_any c d _ i3 i4).mono ?_
  rintro e w2 ⟨rfl, hb2⟩
  rw [v2]
  replace hb := hb.then_ hb2
  replace KA := KA.on hb2
  replace KB := KB.on hb2
  replace KR := KR.on hb2
  obtain ⟨a20, a21⟩ := KA.two
  obtain ⟨b20, b21⟩ := KB.two
  obtain ⟨r20, r21⟩ := KR.two
  have q20 := KR.free 0
  have q21 := KR.free 1
  go_wp2_with fail
  refine (form_any (a * d - c * b) (b * d) _ hn (by omega) (by omega) (by omega) (by omega)).mono ?_
  rintro e w3 ⟨rfl, hb3⟩
  replace hb := hb.then_ hb3
  replace KR := KR.on hb3
  obtain ⟨r30, r31⟩ := KR.two
  have q30 := KR.free 0
  have q31 := KR.free 1
  have Kz : Known _ _ _ #[.int .i64 (Num.redN (a * d - c * b) (b * d)), .int .i64 (Num.redD (a * d - c * b) (b * d))] := (KR.put 0 (.int .i64 (Num.redN (a * d - c * b) (b * d)))).put 1 (.int .i64 (Num.redD (a * d - c * b) (b * d)))
  obtain ⟨z0, z1⟩ := Kz.two
  go_wp2
  exact bodyPost_ret (v := .tuple #[.agg #[.int .i64 (Num.redN (a * d - c * b) (b * d)), .int .i64 (Num.redD (a * d - c * b) (b * d))], .int .i64 (Num.redE (a * d - c * b) (b * d))]) (by simp [results, Tryd.results13, go_sem, z0, z1]) rfl ⟨rfl, (hb.setCell (p := ⟨w.heap.size + 1 + 1, 0, none⟩) hs _).setCell (p := ⟨w.heap.size + 1 + 1, 1, none⟩) hs _⟩

set_option maxHeartbeats 1000000 in
theorem mulP_no1 (a b c d : Int) (w : World) (i1 : I64 a) (i2 : I64 b) (_i3 : I64 c) (_i4 : I64 d) (v1 : Num.val a b = false) :
    Calls Tryd.prog 67 #[.agg #[.int .i64 a, .int .i64 b], .agg #[.int .i64 c, .int .i64 d]] w fun e w' => e = .returned (.tuple #[.agg #[.int .i64 0, .int .i64 0], .int .i64 7]) ∧ Below w.heap.size w w' := by
  go_enter Tryd.func67, Tryd.ntmps67
  go_wp2_with fail
  refine (valid_any a b _ i1 i2).mono ?_
  rintro e w1 ⟨rfl, hb1⟩
  rw [v1]
  change Below (W3 a b c d w).heap.size (W3 a b c d w) w1 at hb1
  have hb := (W3_below a b c d w).then_ hb1
  have KA := (W3_a a b c d w).on hb1
  have KB := (W3_b a b c d w).on hb1
  have KR := (W3_r a b c d w).on hb1
  have hs : w.heap.size ≤ w.heap.size + 1 + 1 := by omega
  obtain ⟨a10, a11⟩ := KA.two
  obtain ⟨b10, b11⟩ := KB.two
  obtain ⟨r10, r11⟩ := KR.two
  have q10 := KR.free 0
  have q11 := KR.free 1
  have Kz : Known _ _ _ #[.int .i64 0, .int .i64 0] := (KR.put 0 (.int .i64 0)).put 1 (.int .i64 0)
  obtain ⟨z0, z1⟩ := Kz.two
  go_wp2
  exact bodyPost_ret (v := .tuple #[.agg #[.int .i64 0, .int .i64 0], .int .i64 7]) (by simp [results, Tryd.results67, go_sem, z0, z1]) rfl ⟨rfl, (hb.setCell (p := ⟨w.heap.size + 1 + 1, 0, none⟩) hs _).setCell (p := ⟨w.heap.size + 1 + 1, 1, none⟩) hs _⟩

set_option maxHeartbeats 1000000 in
theorem mulP_no2 (a b c d : Int) (w : World) (i1 : I64 a) (i2 : I64 b) (i3 : I64 c) (i4 : I64 d) (v1 : Num.val a b = true) (v2 : Num.val c d = false) :
    Calls Tryd.prog 67 #[.agg #[.int .i64 a, .int .i64 b], .agg #[.int .i64 c, .int .i64 d]] w fun e w' => e = .returned (.tuple #[.agg #[.int .i64 0, .int .i64 0], .int .i64 7]) ∧ Below w.heap.size w w' := by
  go_enter Tryd.func67, Tryd.ntmps67
  go_wp2_with fail
  refine (valid_any a b _ i1 i2).mono ?_
  rintro e w1 ⟨rfl, hb1⟩
  rw [v1]
  change Below (W3 a b c d w).heap.size (W3 a b c d w) w1 at hb1
  have hb := (W3_below a b c d w).then_ hb1
  have KA := (W3_a a b c d w).on hb1
  have KB := (W3_b a b c d w).on hb1
  have KR := (W3_r a b c d w).on hb1
  have hs : w.heap.size ≤ w.heap.size + 1 + 1 := by omega
  obtain ⟨a10, a11⟩ := KA.two
  obtain ⟨b10, b11⟩ := KB.two
  obtain ⟨r10, r11⟩ := KR.two
  have q10 := KR.free 0
  have q11 := KR.free 1
  go_wp2_with fail
  refine (valid_any c d _ i3 i4).mono ?_
  rintro e w2 ⟨rfl, hb2⟩
  rw [v2]
  replace hb := hb.then_ hb2
  replace KA := KA.on hb2
  replace KB := KB.on hb2
  replace KR := KR.on hb2
  obtain ⟨a20, a21⟩ := KA.two
  obtain ⟨b20, b21⟩ := KB.two
  obtain ⟨r20, r21⟩ := KR.two
  have q20 := KR.free 0
  have q21 := KR.free 1
  have Kz : Known _ _ _ #[.int .i64 0, .int .i64 0] := (KR.put 0 (.int .i64 0)).put 1 (.int .i64 0)
  obtain ⟨z0, z1⟩ := Kz.two
  go_wp2
  exact bodyPost_ret (v := .tuple #[.agg #[.int .i64 0, .int .i64 0], .int .i64 7]) (by simp [results, Tryd.results67, go_sem, z0, z1]) rfl ⟨rfl, (hb.setCell (p := ⟨w.heap.size + 1 + 1, 0, none⟩) hs _).setCell (p := ⟨w.heap.size + 1 + 1, 1, none⟩) hs _⟩

set_option maxHeartbeats 1000000 in
theorem mulP_ok (a b c d : Int) (w : World) (i1 : I64 a) (i2 : I64 b) (i3 : I64 c) (i4 : I64 d) (v1 : Num.val a b = true) (v2 : Num.val c d = true) :
    Calls Tryd.prog 67 #[.agg #[.int .i64 a, .int .i64 b], .agg #[.int .i64 c, .int .i64 d]] w fun e w' => e = .returned (.tuple #[.agg #[.int .i64 (Num.redN (a * c) (b * d)), .int .i64 (Num.redD (a * c) (b * d))], .int .i64 (Num.redE (a * c) (b * d))]) ∧ Below w.heap.size w w' := by
  obtain ⟨k1, k2, k3, k4, k5⟩ := Num.val_iff.1 v1
  obtain ⟨l1, l2, l3, l4, l5⟩ := Num.val_iff.1 v2
  obtain ⟨m1, m2⟩ := mul_bd k1 k2 (show -1000000000 ≤ d by omega) l4
  obtain ⟨m3, m4⟩ := mul_bd l1 l2 (show -1000000000 ≤ b by omega) k4
  obtain ⟨m5, m6⟩ := mul_bd (show -1000000000 ≤ b by omega) k4 (show -1000000000 ≤ d by omega) l4
  obtain ⟨m7, m8⟩ := mul_bd k1 k2 l1 l2
  obtain ⟨m9, m10⟩ := mul_bd (show -1000000000 ≤ b by omega) k4 l1 l2
  have hn : b * d ≠ 0 := Int.mul_ne_zero (by omega) (by omega)
  go_enter Tryd.func67, Tryd.ntmps67
  go_wp2_with fail
  refine (valid_any a b _ i1 i2).mono ?_
  rintro e w1 ⟨rfl, hb1⟩
  rw [v1]
  change Below (W3 a b c d w).heap.size (W3 a b c d w) w1 at hb1
  have hb := (W3_below a b c d w).then_ hb1
  have KA := (W3_a a b c d w).on hb1
  have KB := (W3_b a b c d w).on hb1
  have KR := (W3_r a b c d w).on hb1
  have hs : w.heap.size ≤ w.heap.size + 1 + 1 := by omega
  obtain ⟨a10, a11⟩ := KA.two
  obtain ⟨b10, b11⟩ := KB.two
  obtain ⟨r10, r11⟩ := KR.two
  have q10 := KR.free 0
  have q11 := KR.free 1
  go_wp2_with fail
  refine (valid_any c d _ i3 i4).mono ?_
  rintro e w2 ⟨rfl, hb2⟩
  rw [v2]
  replace hb := hb.then_ hb2
  replace KA := KA.on hb2
  replace KB := KB.on hb2
  replace KR := KR.on hb2
  obtain ⟨a20, a21⟩ := KA.two
  obtain ⟨b20, b21⟩ := KB.two
  obtain ⟨r20, r21⟩ := KR.two
  have q20 := KR.free 0
  have q21 := KR.free 1
  go_wp2_with fail
  refine (reduce_any (a * c) (b * d) _ hn (by omega) (by omega) (by omega) (by omega)).mono ?_
  rintro e w3 ⟨rfl, hb3⟩
  replace hb := hb.then_ hb3
  replace KR := KR.on hb3
  obtain ⟨r30, r31⟩ := KR.two
  have q30 := KR.free 0
  have q31 := KR.free 1
  have Kz : Known _ _ _ #[.int .i64 (Num.redN (a * c) (b * d)), .int .i64 (Num.redD (a * c) (b * d))] := (KR.put 0 (.int .i64 (Num.redN (a * c) (b * d)))).put 1 (.int .i64 (Num.redD (a * c) (b * d)))
  obtain ⟨z0, z1⟩ := Kz.two
  go_wp2
  exact bodyPost_ret (v := .tuple #[.agg #[.int .i64 (Num.redN (a * c) (b * d)), .int .i64 (Num.redD (a * c) (b * d))], .int .i64 (Num.redE (a * c) (b * d))]) (by simp [results, Tryd.results67, go_sem, z0, z1]) rfl ⟨rfl, (hb.setCell (p := ⟨w.heap.size + 1 + 1, 0, none⟩) hs _).setCell (p := ⟨w.heap.size + 1 + 1, 1, none⟩) hs _⟩

set_option maxHeartbeats 1000000 in
theorem mulR_no1 (a b c d : Int) (w : World) (i1 : I64 a) (i2 : I64 b) (_i3 : I64 c) (_i4 : I64 d) (v1 : Num.val a b = false) :
    Calls Tryd.prog 14 #[.agg #[.int .i64 a, .int .i64 b], .agg #[.int .i64 c, .int .i64 d]] w fun e w' => e = .returned (.tuple #[.agg #[.int .i64 0, .int .i64 0], .int .i64 7]) ∧ Below w.heap.size w w' := by
  go_enter Tryd.func14, Tryd.ntmps14
  go_wp2_with fail
  refine (validRef_any a b _ i1 i2).mono ?_
  rintro e w1 ⟨rfl, hb1⟩
  rw [v1]
  change Below (W3 a b c d w).heap.size (W3 a b c d w) w1 at hb1
  have hb := (W3_below a b c d w).then_ hb1
  have KA := (W3_a a b c d w).on hb1
  have KB := (W3_b a b c d w).on hb1
  have KR := (W3_r a b c d w).on hb1
  have hs : w.heap.size ≤ w.heap.size + 1 + 1 := by omega
  obtain ⟨a10, a11⟩ := KA.two
  obtain ⟨b10, b11⟩ := KB.two
  obtain ⟨r10, r11⟩ := KR.two
  have q10 := KR.free 0
  have q11 := KR.free 1
  have Kz : Known _ _ _ #[.int .i64 0, .int .i64 0] := (KR.put 0 (.int .i64 0)).put 1 (.int .i64 0)
  obtain ⟨z0, z1⟩ := Kz.two
  go_wp2
  exact bodyPost_ret (v := .tuple #[.agg #[.int .i64 0, .int .i64 0], .int .i64 7]) (by simp [results, Tryd.results14, go_sem, z0, z1]) rfl ⟨rfl, (hb.setCell (p := ⟨w.heap.size + 1 + 1, 0, none⟩) hs _).setCell (p := ⟨w.heap.size + 1 + 1, 1, none⟩) hs _⟩

set_option maxHeartbeats 1000000 in
theorem mulR_no2 (a b c d : Int) (w : World) (i1 : I64 a) (i2 : I64 b) (i3 : I64 c) (i4 : I64 d) (v1 : Num.val a b = true) (v2 : Num.val c d = false) :
    Calls Tryd.prog 14 #[.agg #[.int .i64 a, .int .i64 b], .agg #[.int .i64 c, .int .i64 d]] w fun e w' => e = .returned (.tuple #[.agg #[.int .i64 0, .int .i64 0], .int .i64 7]) ∧ Below w.heap.size w w' := by
  go_enter Tryd.func14, Tryd.ntmps14
  go_wp2_with fail
  refine (validRef_any a b _ i1 i2).mono ?_
  rintro e w1 ⟨rfl, hb1⟩
  rw [v1]
  change Below (W3 a b c d w).heap.size (W3 a b c d w) w1 at hb1
  have hb := (W3_below a b c d w).then_ hb1
  have KA := (W3_a a b c d w).on hb1
  have KB := (W3_b a b c d w).on hb1
  have KR := (W3_r a b c d w).on hb1
  have hs : w.heap.size ≤ w.heap.size + 1 + 1 := by omega
  obtain ⟨a10, a11⟩ := KA.two
  obtain ⟨b10, b11⟩ := KB.two
  obtain ⟨r10, r11⟩ := KR.two
  have q10 := KR.free 0
  have q11 := KR.free 1
  go_wp2_with fail
  refine (validRef_any c d _ i3 i4).mono ?_
  rintro e w2 ⟨rfl, hb2⟩
  rw [v2]
  replace hb := hb.then_ hb2
  replace KA := KA.on hb2
  replace KB := KB.on hb2
  replace KR := KR.on hb2
  obtain ⟨a20, a21⟩ := KA.two
  obtain ⟨b20, b21⟩ := KB.two
  obtain ⟨r20, r21⟩ := KR.two
  have q20 := KR.free 0
  have q21 := KR.free 1
  have Kz : Known _ _ _ #[.int .i64 0, .int .i64 0] := (KR.put 0 (.int .i64 0)).put 1 (.int .i64 0)
  obtain ⟨z0, z1⟩ := Kz.two
  go_wp2
  exact bodyPost_ret (v := .tuple #[.agg #[.int .i64 0, .int .i64 0], .int .i64 7]) (by simp [results, Tryd.results14, go_sem, z0, z1]) rfl ⟨rfl, (hb.setCell (p := ⟨w.heap.size + 1 + 1, 0, none⟩) hs _).setCell (p := ⟨w.heap.size + 1 + 1, 1, none⟩) hs _⟩

set_option maxHeartbeats 1000000 in
theorem mulR_ok (a b c d : Int) (w : World) (i1 : I64 a) (i2 : I64 b) (i3 : I64 c) (i4 : I64 d) (v1 : Num.val a b = true) (v2 : Num.val c d = true) :
    Calls Tryd.prog 14 #[.agg #[.int .i64 a, .int .i64 b], .agg #[.int .i64 c, .int .i64 d]] w fun e w' => e = .returned (.tuple #[.agg #[.int .i64 (Num.redN (a * c) (b * d)), .int .i64 (Num.redD (a * c) (b * d))], .int .i64 (Num.redE (a * c) (b * d))]) ∧ Below w.heap.size w w' := by
  obtain ⟨k1, k2, k3, k4, k5⟩ := Num.val_iff.1 v1
  obtain ⟨l1, l2, l3, l4, l5⟩ := Num.val_iff.1 v2
  obtain ⟨m1, m2⟩ := mul_bd k1 k2 (show -1000000000 ≤ d by omega) l4
  obtain ⟨m3, m4⟩ := mul_bd l1 l2 (show -1000000000 ≤ b by omega) k4
  obtain ⟨m5, m6⟩ := mul_bd (show -1000000000 ≤ b by omega) k4 (show -1000000000 ≤ d by omega) l4
  obtain ⟨m7, m8⟩ := mul_bd k1 k2 l1 l2
  obtain ⟨m9, m10⟩ := mul_bd (show -1000000000 ≤ b by omega) k4 l1 l2
  have hn : b * d ≠ 0 := Int.mul_ne_zero (by omega) (by omega)
  go_enter Tryd.func14, Tryd.ntmps14
  go_wp2_with fail
  refine (validRef_any a b _ i1 i2).mono ?_
  rintro e w1 ⟨rfl, hb1⟩
  rw [v1]
  change Below (W3 a b c d w).heap.size (W3 a b c d w) w1 at hb1
  have hb := (W3_below a b c d w).then_ hb1
  have KA := (W3_a a b c d w).on hb1
  have KB := (W3_b a b c d w).on hb1
  have KR := (W3_r a b c d w).on hb1
  have hs : w.heap.size ≤ w.heap.size + 1 + 1 := by omega
  obtain ⟨a10, a11⟩ := KA.two
  obtain ⟨b10, b11⟩ := KB.two
  obtain ⟨r10, r11⟩ := KR.two
  have q10 := KR.free 0
  have q11 := KR.free 1
  go_wp2_with fail
  refine (validRef_any c d _ i3 i4).mono ?_
  rintro e w2 ⟨rfl, hb2⟩
  rw [v2]
  replace hb := hb.then_ hb2
  replace KA := KA.on hb2
  replace KB := KB.on hb2
  replace KR := KR.on hb2
  obtain ⟨a20, a21⟩ := KA.two
  obtain ⟨b20, b21⟩ := KB.two
  obtain ⟨r20, r21⟩ := KR.two
  have q20 := KR.free 0
  have q21 := KR.free 1
  go_wp2_with fail
  refine (form_any (a * c) (b * d) _ hn (by omega) (by omega) (by omega) (by omega)).mono ?_
  rintro e w3 ⟨rfl, hb3⟩
  replace hb := hb.then_ hb3
  replace KR := KR.on hb3
  obtain ⟨r30, r31⟩ := KR.two
  have q30 := KR.free 0
  have q31 := KR.free 1
  have Kz : Known _ _ _ #[.int .i64 (Num.redN (a * c) (b * d)), .int .i64 (Num.redD (a * c) (b * d))] := (KR.put 0 (.int .i64 (Num.redN (a * c) (b * d)))).put 1 (.int .i64 (Num.redD (a * c) (b * d)))
  obtain ⟨z0, z1⟩ := Kz.two
  go_wp2
  exact bodyPost_ret (v := .tuple #[.agg #[.int .i64 (Num.redN (a * c) (b * d)), .int .i64 (Num.redD (a * c) (b * d))], .int .i64 (Num.redE (a * c) (b * d))]) (by simp [results, Tryd.results14, go_sem, z0, z1]) rfl ⟨rfl, (hb.setCell (p := ⟨w.heap.size + 1 + 1, 0, none⟩) hs _).setCell (p := ⟨w.heap.size + 1 + 1, 1, none⟩) hs _⟩

set_option maxHeartbeats 1000000 in
theorem divP_no1 (a b c d : Int) (w : World) (i1 : I64 a) (i2 : I64 b) (_i3 : I64 c) (_i4 : I64 d) (v1 : Num.val a b = false) :
    Calls Tryd.prog 68 #[.agg #[.int .i64 a, .int .i64 b], .agg #[.int .i64 c, .int .i64 d]] w fun e w' => e = .returned (.tuple #[.agg #[.int .i64 0, .int .i64 0], .int .i64 7]) ∧ Below w.heap.size w w' := by
  go_enter Tryd.func68, Tryd.ntmps68
  go_wp2_with fail
  refine (valid_any a b _ i1 i2).mono ?_
  rintro e w1 ⟨rfl, hb1⟩
  rw [v1]
  change Below (W3 a b c d w).heap.size (W3 a b c d w) w1 at hb1
  have hb := (W3_below a b c d w).then_ hb1
  have KA := (W3_a a b c d w).on hb1
  have KB := (W3_b a b c d w).on hb1
  have KR := (W3_r a b c d w).on hb1
  have hs : w.heap.size ≤ w.heap.size + 1 + 1 := by omega
  obtain ⟨a10, a11⟩ := KA.two
  obtain ⟨b10, b11⟩ := KB.two
  obtain ⟨r10, r11⟩ := KR.two
  have q10 := KR.free 0
  have q11 := KR.free 1
  have Kz : Known _ _ _ #[.int .i64 0, .int .i64 0] := (KR.put 0 (.int .i64 0)).put 1 (.int .i64 0)
  obtain ⟨z0, z1⟩ := Kz.two
  go_wp2
  exact bodyPost_ret (v := .tuple #[.agg #[.int .i64 0, .int .i64 0], .int .i64 7]) (by simp [results, Tryd.results68, go_sem, z0, z1]) rfl ⟨rfl, (hb.setCell (p := ⟨w.heap.size + 1 + 1, 0, none⟩) hs _).setCell (p := ⟨w.heap.size + 1 + 1, 1, none⟩) hs _⟩

set_option maxHeartbeats 1000000 in
theorem divP_no2 (a b c d : Int) (w : World) (i1 : I64 a) (i2 : I64 b) (i3 : I64 c) (i4 : I64 d) (v1 : Num.val a b = true) (v2 : Num.val c d = false) :
    Calls Tryd.prog 68 #[.agg #[.int .i64 a, .int .i64 b], .agg #[.int .i64 c, .int .i64 d]] w fun e w' => e = .returned (.tuple #[.agg #[.int .i64 0, .int .i64 0], .int .i64 7]) ∧ Below w.heap.size w w' := by
  go_enter Tryd.func68, Tryd.ntmps68
  go_wp2_with fail
  refine (valid_any a b _ i1 i2).mono ?_
  rintro e w1 ⟨rfl, hb1⟩
  rw [v1]
  change Below (W3 a b c d w).heap.size (W3 a b c d w) w1 at hb1
  have hb := (W3_below a b c d w).then_ hb1
  have KA := (W3_a a b c d w).on hb1
  have KB := (W3_b a b c d w).on hb1
  have KR := (W3_r a b c d w).on hb1
  have hs : w.heap.size ≤ w.heap.size + 1 + 1 := by omega
  obtain ⟨a10, a11⟩ := KA.two
  obtain ⟨b10, b11⟩ := KB.two
  obtain ⟨r10, r11⟩ := KR.two
  have q10 := KR.free 0
  have q11 := KR.free 1
  go_wp2_with fail
  refine (valid_any c d _ i3 i4).mono ?_
  rintro e w2 ⟨rfl, hb2⟩
  rw [v2]
  replace hb := hb.then_ hb2
  replace KA := KA.on hb2
  replace KB := KB.on hb2
  replace KR := KR.on hb2
  obtain ⟨a20, a21⟩ := KA.two
  obtain ⟨b20, b21⟩ := KB.two
  obtain ⟨r20, r21⟩ := KR.two
  have q20 := KR.free 0
  have q21 := KR.free 1
  have Kz : Known _ _ _ #[.int .i64 0, .int .i64 0] := (KR.put 0 (.int .i64 0)).put 1 (.int .i64 0)
  obtain ⟨z0, z1⟩ := Kz.two
  go_wp2
  exact bodyPost_ret (v := .tuple #[.agg #[.int .i64 0, .int .i64 0], .int .i64 7]) (by simp [results, Tryd.results68, go_sem, z0, z1]) rfl ⟨rfl, (hb.setCell (p := ⟨w.heap.size + 1 + 1, 0, none⟩) hs _).setCell (p := ⟨w.heap.size + 1 + 1, 1, none⟩) hs _⟩

set_option maxHeartbeats 1000000 in
theorem divP_zero (a b c d : Int) (w : World) (i1 : I64 a) (i2 : I64 b) (i3 : I64 c) (i4 : I64 d) (v1 : Num.val a b = true) (v2 : Num.val c d = true) (hc : c = 0) :
    Calls Tryd.prog 68 #[.agg #[.int .i64 a, .int .i64 b], .agg #[.int .i64 c, .int .i64 d]] w fun e w' => e = .returned (.tuple #[.agg #[.int .i64 0, .int .i64 0], .int .i64 16]) ∧ Below w.heap.size w w' := by
  subst hc
  go_enter Tryd.func68, Tryd.ntmps68
  go_wp2_with fail
  refine (valid_any a b _ i1 i2).mono ?_
  rintro e w1 ⟨rfl, hb1⟩
  rw [v1]
  change Below (W3 a b 0 d w).heap.size (W3 a b 0 d w) w1 at hb1
  have hb := (W3_below a b 0 d w).then_ hb1
  have KA := (W3_a a b 0 d w).on hb1
  have KB := (W3_b a b 0 d w).on hb1
  have KR := (W3_r a b 0 d w).on hb1
  have hs : w.heap.size ≤ w.heap.size + 1 + 1 := by omega
  obtain ⟨a10, a11⟩ := KA.two
  obtain ⟨b10, b11⟩ := KB.two
  obtain ⟨r10, r11⟩ := KR.two
  have q10 := KR.free 0
  have q11 := KR.free 1
  go_wp2_with fail
  refine (valid_any 0 d _ i3 i4).mono ?_
  rintro e w2 ⟨rfl, hb2⟩
  rw [v2]
  replace hb := hb.then_ hb2
  replace KA := KA.on hb2
  replace KB := KB.on hb2
  replace KR := KR.on hb2
  obtain ⟨a20, a21⟩ := KA.two
  obtain ⟨b20, b21⟩ := KB.two
  obtain ⟨r20, r21⟩ := KR.two
  have q20 := KR.free 0
  have q21 := KR.free 1
  have Kz : Known _ _ _ #[.int .i64 0, .int .i64 0] := (KR.put 0 (.int .i64 0)).put 1 (.int .i64 0)
  obtain ⟨z0, z1⟩ := Kz.two
  go_wp2
  exact bodyPost_ret (v := .tuple #[.agg #[.int .i64 0, .int .i64 0], .int .i64 16]) (by simp [results, Tryd.results68, go_sem, z0, z1]) rfl ⟨rfl, (hb.setCell (p := ⟨w.heap.size + 1 + 1, 0, none⟩) hs _).setCell (p := ⟨w.heap.size + 1 + 1, 1, none⟩) hs _⟩

set_option maxHeartbeats 1000000 in
theorem divP_ok (a b c d : Int) (w : World) (i1 : I64 a) (i2 : I64 b) (i3 : I64 c) (i4 : I64 d) (v1 : Num.val a b = true) (v2 : Num.val c d = true) (hc : c ≠ 0) :
    Calls Tryd.prog 68 #[.agg #[.int .i64 a, .int .i64 b], .agg #[.int .i64 c, .int .i64 d]] w fun e w' => e = .returned (.tuple #[.agg #[.int .i64 (Num.redN (a * d) (b * c)), .int .i64 (Num.redD (a * d) (b * c))], .int .i64 (Num.redE (a * d) (b * c))]) ∧ Below w.heap.size w w' := by
  obtain ⟨k1, k2, k3, k4, k5⟩ := Num.val_iff.1 v1
  obtain ⟨l1, l2, l3, l4, l5⟩ := Num.val_iff.1 v2
  obtain ⟨m1, m2⟩ := mul_bd k1 k2 (show -1000000000 ≤ d by omega) l4
  obtain ⟨m3, m4⟩ := mul_bd l1 l2 (show -1000000000 ≤ b by omega) k4
  obtain ⟨m5, m6⟩ := mul_bd (show -1000000000 ≤ b by omega) k4 (show -1000000000 ≤ d by omega) l4
  obtain ⟨m7, m8⟩ := mul_bd k1 k2 l1 l2
  obtain ⟨m9, m10⟩ := mul_bd (show -1000000000 ≤ b by omega) k4 l1 l2
  have hn : b * c ≠ 0 := Int.mul_ne_zero (by omega) (by omega)
  have hc' : (c == 0) = false := by simpa using hc
  go_enter Tryd.func68, Tryd.ntmps68
  go_wp2_with fail
  refine (valid_any a b _ i1 i2).mono ?_
  rintro e w1 ⟨rfl, hb1⟩
  rw [v1]
  change Below (W3 a b c d w).heap.size (W3 a b c d w) w1 at hb1
  have hb := (W3_below a b c d w).then_ hb1
  have KA := (W3_a a b c d w).on hb1
  have KB := (W3_b a b c d w).on hb1
  have KR := (W3_r a b c d w).on hb1
  have hs : w.heap.size ≤ w.heap.size + 1 + 1 := by omega
  obtain ⟨a10, a11⟩ := KA.two
  obtain ⟨b10, b11⟩ := KB.two
  obtain ⟨r10, r11⟩ := KR.two
  have q10 := KR.free 0
  have q11 := KR.free 1
  go_wp2_with fail
  refine (valid_any c d _ i3 i4).mono ?_
  rintro e w2 ⟨rfl, hb2⟩
  rw [v2]
  replace hb := hb.then_ hb2
  replace KA := KA.on hb2
  replace KB := KB.on hb2
  replace KR := KR.on hb2
  obtain ⟨a20, a21⟩ := KA.two
  obtain ⟨b20, b21⟩ := KB.two
  obtain ⟨r20, r21⟩ := KR.two
  have q20 := KR.free 0
  have q21 := KR.free 1
  go_wp2_with fail
  refine (reduce_any (a * d) (b * c) _ hn (by omega) (by omega) (by omega) (by omega)).mono ?_
  rintro e w3 ⟨rfl, hb3⟩
  replace hb := hb.then_ hb3
  replace KR := KR.on hb3
  obtain ⟨r30, r31⟩ := KR.two
  have q30 := KR.free 0
  have q31 := KR.free 1
  have Kz : Known _ _ _ #[.int .i64 (Num.redN (a * d) (b * c)), .int .i64 (Num.redD (a * d) (b * c))] := (KR.put 0 (.int .i64 (Num.redN (a * d) (b * c)))).put 1 (.int .i64 (Num.redD (a * d) (b * c)))
  obtain ⟨z0, z1⟩ := Kz.two
  go_wp2
  exact bodyPost_ret (v := .tuple #[.agg #[.int .i64 (Num.redN (a * d) (b * c)), .int .i64 (Num.redD (a * d) (b * c))], .int .i64 (Num.redE (a * d) (b * c))]) (by simp [results, Tryd.results68, go_sem, z0, z1]) rfl ⟨rfl, (hb.setCell (p := ⟨w.heap.size + 1 + 1, 0, none⟩) hs _).setCell (p := ⟨w.heap.size + 1 + 1, 1, none⟩) hs _⟩

set_option maxHeartbeats 1000000 in
theorem divR_no1 (a b c d : Int) (w : World) (i1 : I64 a) (i2 : I64 b) (_i3 : I64 c) (_i4 : I64 d) (v1 : Num.val a b = false) :
    Calls Tryd.prog 15 #[.agg #[.int .i64 a, .int .i64 b], .agg #[.int .i64 c, .int .i64 d]] w fun e w' => e = .returned (.tuple #[.agg #[.int .i64 0, .int .i64 0], .int .i64 7]) ∧ Below w.heap.size w w' := by
  go_enter Tryd.func15, Tryd.ntmps15
  go_wp2_with fail
  refine (validRef_any a b _ i1 i2).mono ?_
  rintro e w1 ⟨rfl, hb1⟩
  rw [v1]
  change Below (W3 a b c d w).heap.size (W3 a b c d w) w1 at hb1
  have hb := (W3_below a b c d w).then_ hb1
  have KA := (W3_a a b c d w).on hb1
  have KB := (W3_b a b c d w).on hb1
  have KR := (W3_r a b c d w).on hb1
  have hs : w.heap.size ≤ w.heap.size + 1 + 1 := by omega
  obtain ⟨a10, a11⟩ := KA.two
  obtain ⟨b10, b11⟩ := KB.two
  obtain ⟨r10, r11⟩ := KR.two
  have q10 := KR.free 0
  have q11 := KR.free 1
  have Kz : Known _ _ _ #[.int .i64 0, .int .i64 0] := (KR.put 0 (.int .i64 0)).put 1 (.int .i64 0)
  obtain ⟨z0, z1⟩ := Kz.two
  go_wp2
  exact bodyPost_ret (v := .tuple #[.agg #[.int .i64 0, .int .i64 0], .int .i64 7]) (by simp [results, Tryd.results15, go_sem, z0, z1]) rfl ⟨rfl, (hb.setCell (p := ⟨w.heap.size + 1 + 1, 0, none⟩) hs _).setCell (p := ⟨w.heap.size + 1 + 1, 1, none⟩) hs _⟩

set_option maxHeartbeats 1000000 in
theorem divR_no2 (a b c d : Int) (w : World) (i1 : I64 a) (i2 : I64 b) (i3 : I64 c) (i4 : I64 d) (v1 : Num.val a b = true) (v2 : Num.val c d = false) :
    Calls Tryd.prog 15 #[.agg #[.int .i64 a, .int .i64 b], .agg #[.int .i64 c, .int .i64 d]] w fun e w' => e = .returned (.tuple #[.agg #[.int .i64 0, .int .i64 0], .int .i64 7]) ∧ Below w.heap.size w w' := by
  go_enter Tryd.func15, Tryd.ntmps15
  go_wp2_with fail
  refine (validRef_any a b _ i1 i2).mono ?_
  rintro e w1 ⟨rfl, hb1⟩
  rw [v1]
  change Below (W3 a b c d w).heap.size (W3 a b c d w) w1 at hb1
  have hb := (W3_below a b c d w).then_ hb1
  have KA := (W3_a a b c d w).on hb1
  have KB := (W3_b a b c d w).on hb1
  have KR := (W3_r a b c d w).on hb1
  have hs : w.heap.size ≤ w.heap.size + 1 + 1 := by omega
  obtain ⟨a10, a11⟩ := KA.two
  obtain ⟨b10, b11⟩ := KB.two
  obtain ⟨r10, r11⟩ := KR.two
  have q10 := KR.free 0
  have q11 := KR.free 1
  go_wp2_with fail
  refine (validRef_any c d _ i3 i4).mono ?_
  rintro e w2 ⟨rfl, hb2⟩
  rw [v2]
  replace hb := hb.then_ hb2
  replace KA := KA.on hb2
  replace KB := KB.on hb2
  replace KR := KR.on hb2
  obtain ⟨a20, a21⟩ := KA.two
  obtain ⟨b20, b21⟩ := KB.two
  obtain ⟨r20, r21⟩ := KR.two
  have q20 := KR.free 0
  have q21 := KR.free 1
  have Kz : Known _ _ _ #[.int .i64 0, .int .i64 0] := (KR.put 0 (.int .i64 0)).put 1 (.int .i64 0)
  obtain ⟨z0, z1⟩ := Kz.two
  go_wp2
  exact bodyPost_ret (v := .tuple #[.agg #[.int .i64 0, .int .i64 0], .int .i64 7]) (by simp [results, Tryd.results15, go_sem, z0, z1]) rfl ⟨rfl, (hb.setCell (p := ⟨w.heap.size + 1 + 1, 0, none⟩) hs _).setCell (p := ⟨w.heap.size + 1 + 1, 1, none⟩) hs _⟩

set_option maxHeartbeats 1000000 in
theorem divR_zero (a b c d : Int) (w : World) (i1 : I64 a) (i2 : I64 b) (i3 : I64 c) (i4 : I64 d) (v1 : Num.val a b = true) (v2 : Num.val c d = true) (hc : c = 0) :
    Calls Tryd.prog 15 #[.agg #[.int .i64 a, .int .i64 b], .agg #[.int .i64 c, .int .i64 d]] w fun e w' => e = .returned (.tuple #[.agg #[.int .i64 0, .int .i64 0], .int .i64 16]) ∧ Below w.heap.size w w' := by
  subst hc
  go_enter Tryd.func15, Tryd.ntmps15
  go_wp2_with fail
  refine (validRef_any a b _ i1 i2).mono ?_
  rintro e w1 ⟨rfl, hb1⟩
  rw [v1]
  change Below (W3 a b 0 d w).heap.size (W3 a b 0 d w) w1 at hb1
  have hb := (W3_below a b 0 d w).then_ hb1
  have KA := (W3_a a b 0 d w).on hb1
  have KB := (W3_b a b 0 d w).on hb1
  have KR := (W3_r a b 0 d w).on hb1
  have hs : w.heap.size ≤ w.heap.size + 1 + 1 := by omega
  obtain ⟨a10, a11⟩ := KA.two
  obtain ⟨b10, b11⟩ := KB.two
  obtain ⟨r10, r11⟩ := KR.two
  have q10 := KR.free 0
  have q11 := KR.free 1
  go_wp2_with fail
  refine (validRef_any 0 d _ i3 i4).mono ?_
  rintro e w2 ⟨rfl, hb2⟩
  rw [v2]
  replace hb := hb.then_ hb2
  replace KA := KA.on hb2
  replace KB := KB.on hb2
  replace KR := KR.on hb2
  obtain ⟨a20, a21⟩ := KA.two
  obtain ⟨b20, b21⟩ := KB.two
  obtain ⟨r20, r21⟩ := KR.two
  have q20 := KR.free 0
  have q21 := KR.free 1
  have Kz : Known _ _ _ #[.int .i64 0, .int .i64 0] := (KR.put 0 (.int .i64 0)).put 1 (.int .i64 0)
  obtain ⟨z0, z1⟩ := Kz.two
  go_wp2
  exact bodyPost_ret (v := .tuple #[.agg #[.int .i64 0, .int .i64 0], .int .i64 16]) (by simp [results, Tryd.results15, go_sem, z0, z1]) rfl ⟨rfl, (hb.setCell (p := ⟨w.heap.size + 1 + 1, 0, none⟩) hs _).setCell (p := ⟨w.heap.size + 1 + 1, 1, none⟩) hs _⟩

set_option maxHeartbeats 1000000 in
theorem divR_ok (a b c d : Int) (w : World) (i1 : I64 a) (i2 : I64 b) (i3 : I64 c) (i4 : I64 d) (v1 : Num.val a b = true) (v2 : Num.val c d = true) (hc : c ≠ 0) :
    Calls Tryd.prog 15 #[.agg #[.int .i64 a, .int .i64 b], .agg #[.int .i64 c, .int .i64 d]] w fun e w' => e = .returned (.tuple #[.agg #[.int .i64 (Num.redN (a * d) (b * c)), .int .i64 (Num.redD (a * d) (b * c))], .int .i64 (Num.redE (a * d) (b * c))]) ∧ Below w.heap.size w w' := by
  obtain ⟨k1, k2, k3, k4, k5⟩ := Num.val_iff.1 v1
  obtain ⟨l1, l2, l3, l4, l5⟩ := Num.val_iff.1 v2
  obtain ⟨m1, m2⟩ := mul_bd k1 k2 (show -1000000000 ≤ d by omega) l4
  obtain ⟨m3, m4⟩ := mul_bd l1 l2 (show -1000000000 ≤ b by omega) k4
  obtain ⟨m5, m6⟩ := mul_bd (show -1000000000 ≤ b by omega) k4 (show -1000000000 ≤ d by omega) l4
  obtain ⟨m7, m8⟩ := mul_bd k1 k2 l1 l2
  obtain ⟨m9, m10⟩ := mul_bd (show -1000000000 ≤ b by omega) k4 l1 l2
  have hn : b * c ≠ 0 := Int.mul_ne_zero (by omega) (by omega)
  have hc' : (c == 0) = false := by simpa using hc
  go_enter Tryd.func15, Tryd.ntmps15
  go_wp2_with fail
  refine (validRef_any a b _ i1 i2).mono ?_
  rintro e w1 ⟨rfl, hb1⟩
  rw [v1]
  change Below (W3 a b c d w).heap.size (W3 a b c d w) w1 at hb1
  have hb := (W3_below a b c d w).then_ hb1
  have KA := (W3_a a b c d w).on hb1
  have KB := (W3_b a b c d w).on hb1
  have KR := (W3_r a b c d w).on hb1
  have hs : w.heap.size ≤ w.heap.size + 1 + 1 := by omega
  obtain ⟨a10, a11⟩ := KA.two
  obtain ⟨b10, b11⟩ := KB.two
  obtain ⟨r10, r11⟩ := KR.two
  have q10 := KR.free 0
  have q11 := KR.free 1
  go_wp2_with fail
  refine (validRef_any c d _ i3 i4).mono ?_
  rintro e w2 ⟨rfl, hb2⟩
  rw [v2]
  replace hb := hb.then_ hb2
  replace KA := KA.on hb2
  replace KB := KB.on hb2
  replace KR := KR.on hb2
  obtain ⟨a20, a21⟩ := KA.two
  obtain ⟨b20, b21⟩ := KB.two
  obtain ⟨r20, r21⟩ := KR.two
  have q20 := KR.free 0
  have q21 := KR.free 1
  go_wp2_with fail
  refine (form_any (a * d) (b * c) _ hn (by omega) (by omega) (by omega) (by omega)).mono ?_
  rintro e w3 ⟨rfl, hb3⟩
  replace hb := hb.then_ hb3
  replace KR := KR.on hb3
  obtain ⟨r30, r31⟩ := KR.two
  have q30 := KR.free 0
  have q31 := KR.free 1
  have Kz : Known _ _ _ #[.int .i64 (Num.redN (a * d) (b * c)), .int .i64 (Num.redD (a * d) (b * c))] := (KR.put 0 (.int .i64 (Num.redN (a * d) (b * c)))).put 1 (.int .i64 (Num.redD (a * d) (b * c)))
  obtain ⟨z0, z1⟩ := Kz.two
  go_wp2
  exact bodyPost_ret (v := .tuple #[.agg #[.int .i64 (Num.redN (a * d) (b * c)), .int .i64 (Num.redD (a * d) (b * c))], .int .i64 (Num.redE (a * d) (b * c))]) (by simp [results, Tryd.results15, go_sem, z0, z1]) rfl ⟨rfl, (hb.setCell (p := ⟨w.heap.size + 1 + 1, 0, none⟩) hs _).setCell (p := ⟨w.heap.size + 1 + 1, 1, none⟩) hs _⟩

end Go.Proofs.YtlkfnpmcihfjmaaDoor
