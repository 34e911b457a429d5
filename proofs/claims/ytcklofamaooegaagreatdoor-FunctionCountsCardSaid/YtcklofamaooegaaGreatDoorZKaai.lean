/-
  The claim's own texts, packed. Conditions: those typed in each theorem.
-/
import Derived.Test.YtcklofamaooegaaGreatDoorZKaah
import Derived.Test.YtcklofamaooegaaGreatDoorZKaae
set_option maxHeartbeats 4000000
set_option maxRecDepth 10000
set_option linter.unusedVariables false
namespace Go.Proofs.YtcklofamaooegaaGreatDoor
open Go.RowKit
def I64 (n : Int) : Prop := -9223372036854775808 ≤ n ∧ n ≤ 9223372036854775807
theorem mul_bd {x y : Int} (h1 : -1000000000 ≤ x) (h2 : x ≤ 1000000000) (h3 : -1000000000 ≤ y) (h4 : y ≤ 1000000000) : -1000000000000000000 ≤ x * y ∧ x * y ≤ 1000000000000000000 := by
 have h := Int.natAbs_mul x y
 have h' : x.natAbs * y.natAbs ≤ 1000000000 * 1000000000 := Nat.mul_le_mul (by omega) (by omega)
 omega
def W3 (a b c d : Int) (w : World) : World := ((w.alloc (.cells #[.int .i64 a, .int .i64 b] 50)).alloc (.cells #[.int .i64 c, .int .i64 d] 50)).alloc (.cells #[.int .i64 0, .int .i64 0] 50)
theorem W3_below (a b c d : Int) (w : World) : Below w.heap.size w (W3 a b c d w) := ((below_new0 w _).then_ (below_new0 _ _)).then_ (below_new0 _ _)
theorem W3_a (a b c d : Int) (w : World) : Known (W3 a b c d w) w.heap.size 50 #[.int .i64 a, .int .i64 b] := ((Known.made w _ _).alloc _).alloc _
theorem W3_b (a b c d : Int) (w : World) : Known (W3 a b c d w) (w.heap.size + 1) 50 #[.int .i64 c, .int .i64 d] := by
 have := (Known.made (w.alloc (.cells #[.int .i64 a, .int .i64 b] 50)) 50 #[.int .i64 c, .int .i64 d]).alloc (.cells #[.int .i64 0, .int .i64 0] 50)
 rw [show (w.alloc (.cells #[.int .i64 a, .int .i64 b] 50)).heap.size = w.heap.size + 1 by simp] at this
 exact this
theorem W3_r (a b c d : Int) (w : World) : Known (W3 a b c d w) (w.heap.size + 1 + 1) 50 #[.int .i64 0, .int .i64 0] := by
 have := Known.made ((w.alloc (.cells #[.int .i64 a, .int .i64 b] 50)).alloc (.cells #[.int .i64 c, .int .i64 d] 50)) 50 #[.int .i64 0, .int .i64 0]
 rw [show ((w.alloc (.cells #[.int .i64 a, .int .i64 b] 50)).alloc (.cells #[.int .i64 c, .int .i64 d] 50)).heap.size = w.heap.size + 1 + 1 by simp] at this
 exact this
theorem addP_no1 (a b c d : Int) (w : World) (i1 : I64 a) (i2 : I64 b) (_i3 : I64 c) (_i4 : I64 d) (v1 : Num.val a b = false) :
  Calls Tryz.prog 177 #[.agg #[.int .i64 a, .int .i64 b], .agg #[.int .i64 c, .int .i64 d]] w fun e w' => e = .returned (.tuple #[.agg #[.int .i64 0, .int .i64 0], .int .i64 7]) ∧ Below w.heap.size w w' := by
 go_enter Tryz.func177, Tryz.ntmps177
 go_wp2_with fail
 refine (valid_any a b _ i1 i2).mono ?_
 rintro e w1 ⟨rfl, hb1⟩
 rw [v1]
 change Below (W3 a b c d w).heap.size (W3 a b c d w) w1 at hb1
 have hb := (W3_below a b c d w).then_ hb1
 have KA := (W3_a a b c d w).on hb1
 have KB := (W3_b a b c d w).on hb1
 have KR := (W3_r a b c d w).on hb1
 have hs : w.heap.size ≤ w.heap.size + 1 + 1 := by omega
 obtain ⟨a10, a11⟩ := KA.two
 obtain ⟨b10, b11⟩ := KB.two
 obtain ⟨r10, r11⟩ := KR.two
 have q10 := KR.free 0
 have q11 := KR.free 1
 have Kz : Known _ _ _ #[.int .i64 0, .int .i64 0] := (KR.put 0 (.int .i64 0)).put 1 (.int .i64 0)
 obtain ⟨z0, z1⟩ := Kz.two
 go_wp2
 exact bodyPost_ret (v := .tuple #[.agg #[.int .i64 0, .int .i64 0], .int .i64 7]) (by simp [results, Tryz.results177, go_sem, z0, z1]) rfl ⟨rfl, (hb.setCell (p := ⟨w.heap.size + 1 + 1, 0, none⟩) hs _).setCell (p := ⟨w.heap.size + 1 + 1, 1, none⟩) hs _⟩
theorem addP_no2 (a b c d : Int) (w : World) (i1 : I64 a) (i2 : I64 b) (i3 : I64 c) (i4 : I64 d) (v1 : Num.val a b = true) (v2 : Num.val c d = false) :
  Calls Tryz.prog 177 #[.agg #[.int .i64 a, .int .i64 b], .agg #[.int .i64 c, .int .i64 d]] w fun e w' => e = .returned (.tuple #[.agg #[.int .i64 0, .int .i64 0], .int .i64 7]) ∧ Below w.heap.size w w' := by
 go_enter Tryz.func177, Tryz.ntmps177
 go_wp2_with fail
 refine (valid_any a b _ i1 i2).mono ?_
 rintro e w1 ⟨rfl, hb1⟩
 rw [v1]
 change Below (W3 a b c d w).heap.size (W3 a b c d w) w1 at hb1
 have hb := (W3_below a b c d w).then_ hb1
 have KA := (W3_a a b c d w).on hb1
 have KB := (W3_b a b c d w).on hb1
 have KR := (W3_r a b c d w).on hb1
 have hs : w.heap.size ≤ w.heap.size + 1 + 1 := by omega
 obtain ⟨a10, a11⟩ := KA.two
 obtain ⟨b10, b11⟩ := KB.two
 obtain ⟨r10, r11⟩ := KR.two
 have q10 := KR.free 0
 have q11 := KR.free 1
 go_wp2_with fail
 refine (valid_any c d _ i3 i4).mono ?_
 rintro e w2 ⟨rfl, hb2⟩
 rw [v2]
 replace hb := hb.then_ hb2
 replace KA := KA.on hb2
 replace KB := KB.on hb2
 replace KR := KR.on hb2
 obtain ⟨a20, a21⟩ := KA.two
 obtain ⟨b20, b21⟩ := KB.two
 obtain ⟨r20, r21⟩ := KR.two
 have q20 := KR.free 0
 have q21 := KR.free 1
 have Kz : Known _ _ _ #[.int .i64 0, .int .i64 0] := (KR.put 0 (.int .i64 0)).put 1 (.int .i64 0)
 obtain ⟨z0, z1⟩ := Kz.two
 go_wp2
 exact bodyPost_ret (v := .tuple #[.agg #[.int .i64 0, .int .i64 0], .int .i64 7]) (by simp [results, Tryz.results177, go_sem, z0, z1]) rfl ⟨rfl, (hb.setCell (p := ⟨w.heap.size + 1 + 1, 0, none⟩) hs _).setCell (p := ⟨w.heap.size + 1 + 1, 1, none⟩) hs _⟩
theorem addP_ok (a b c d : Int) (w : World) (i1 : I64 a) (i2 : I64 b) (i3 : I64 c) (i4 : I64 d) (v1 : Num.val a b = true) (v2 : Num.val c d = true) :
  Calls Tryz.prog 177 #[.agg #[.int .i64 a, .int .i64 b], .agg #[.int .i64 c, .int .i64 d]] w fun e w' => e = .returned (.tuple #[.agg #[.int .i64 (Num.redN (a * d + c * b) (b * d)), .int .i64 (Num.redD (a * d + c * b) (b * d))], .int .i64 (Num.redE (a * d + c * b) (b * d))]) ∧ Below w.heap.size w w' := by
 obtain ⟨k1, k2, k3, k4, k5⟩ := Num.val_iff.1 v1
 obtain ⟨l1, l2, l3, l4, l5⟩ := Num.val_iff.1 v2
 obtain ⟨m1, m2⟩ := mul_bd k1 k2 (show -1000000000 ≤ d by omega) l4
 obtain ⟨m3, m4⟩ := mul_bd l1 l2 (show -1000000000 ≤ b by omega) k4
 obtain ⟨m5, m6⟩ := mul_bd (show -1000000000 ≤ b by omega) k4 (show -1000000000 ≤ d by omega) l4
 obtain ⟨m7, m8⟩ := mul_bd k1 k2 l1 l2
 obtain ⟨m9, m10⟩ := mul_bd (show -1000000000 ≤ b by omega) k4 l1 l2
 have hn : b * d ≠ 0 := Int.mul_ne_zero (by omega) (by omega)
 go_enter Tryz.func177, Tryz.ntmps177
 go_wp2_with fail
 refine (valid_any a b _ i1 i2).mono ?_
 rintro e w1 ⟨rfl, hb1⟩
 rw [v1]
 change Below (W3 a b c d w).heap.size (W3 a b c d w) w1 at hb1
 have hb := (W3_below a b c d w).then_ hb1
 have KA := (W3_a a b c d w).on hb1
 have KB := (W3_b a b c d w).on hb1
 have KR := (W3_r a b c d w).on hb1
 have hs : w.heap.size ≤ w.heap.size + 1 + 1 := by omega
 obtain ⟨a10, a11⟩ := KA.two
 obtain ⟨b10, b11⟩ := KB.two
 obtain ⟨r10, r11⟩ := KR.two
 have q10 := KR.free 0
 have q11 := KR.free 1
 go_wp2_with fail
 refine (valid_any c d _ i3 i4).mono ?_
 rintro e w2 ⟨rfl, hb2⟩
 rw [v2]
 replace hb := hb.then_ hb2
 replace KA := KA.on hb2
 replace KB := KB.on hb2
 replace KR := KR.on hb2
 obtain ⟨a20, a21⟩ := KA.two
 obtain ⟨b20, b21⟩ := KB.two
 obtain ⟨r20, r21⟩ := KR.two
 have q20 := KR.free 0
 have q21 := KR.free 1
 go_wp2_with fail
 refine (reduce_any (a * d + c * b) (b * d) _ hn (by omega) (by omega) (by omega) (by omega)).mono ?_
 rintro e w3 ⟨rfl, hb3⟩
 replace hb := hb.then_ hb3
 replace KR := KR.on hb3
 obtain ⟨r30, r31⟩ := KR.two
 have q30 := KR.free 0
 have q31 := KR.free 1
 have Kz : Known _ _ _ #[.int .i64 (Num.redN (a * d + c * b) (b * d)), .int .i64 (Num.redD (a * d + c * b) (b * d))] := (KR.put 0 (.int .i64 (Num.redN (a * d + c * b) (b * d)))).put 1 (.int .i64 (Num.redD (a * d + c * b) (b * d)))
 obtain ⟨z0, z1⟩ := Kz.two
 go_wp2
 exact bodyPost_ret (v := .tuple #[.agg #[.int .i64 (Num.redN (a * d + c * b) (b * d)), .int .i64 (Num.redD (a * d + c * b) (b * d))], .int .i64 (Num.redE (a * d + c * b) (b * d))]) (by simp [results, Tryz.results177, go_sem, z0, z1]) rfl ⟨rfl, (hb.setCell (p := ⟨w.heap.size + 1 + 1, 0, none⟩) hs _).setCell (p := ⟨w.heap.size + 1 + 1, 1, none⟩) hs _⟩
theorem addR_no1 (a b c d : Int) (w : World) (i1 : I64 a) (i2 : I64 b) (_i3 : I64 c) (_i4 : I64 d) (v1 : Num.val a b = false) :
  Calls Tryz.prog 208 #[.agg #[.int .i64 a, .int .i64 b], .agg #[.int .i64 c, .int .i64 d]] w fun e w' => e = .returned (.tuple #[.agg #[.int .i64 0, .int .i64 0], .int .i64 7]) ∧ Below w.heap.size w w' := by
 go_enter Tryz.func208, Tryz.ntmps208
 go_wp2_with fail
 refine (validRef_any a b _ i1 i2).mono ?_
 rintro e w1 ⟨rfl, hb1⟩
 rw [v1]
 change Below (W3 a b c d w).heap.size (W3 a b c d w) w1 at hb1
 have hb := (W3_below a b c d w).then_ hb1
 have KA := (W3_a a b c d w).on hb1
 have KB := (W3_b a b c d w).on hb1
 have KR := (W3_r a b c d w).on hb1
 have hs : w.heap.size ≤ w.heap.size + 1 + 1 := by omega
 obtain ⟨a10, a11⟩ := KA.two
 obtain ⟨b10, b11⟩ := KB.two
 obtain ⟨r10, r11⟩ := KR.two
 have q10 := KR.free 0
 have q11 := KR.free 1
 have Kz : Known _ _ _ #[.int .i64 0, .int .i64 0] := (KR.put 0 (.int .i64 0)).put 1 (.int .i64 0)
 obtain ⟨z0, z1⟩ := Kz.two
 go_wp2
 exact bodyPost_ret (v := .tuple #[.agg #[.int .i64 0, .int .i64 0], .int .i64 7]) (by simp [results, Tryz.results208, go_sem, z0, z1]) rfl ⟨rfl, (hb.setCell (p := ⟨w.heap.size + 1 + 1, 0, none⟩) hs _).setCell (p := ⟨w.heap.size + 1 + 1, 1, none⟩) hs _⟩
theorem addR_no2 (a b c d : Int) (w : World) (i1 : I64 a) (i2 : I64 b) (i3 : I64 c) (i4 : I64 d) (v1 : Num.val a b = true) (v2 : Num.val c d = false) :
  Calls Tryz.prog 208 #[.agg #[.int .i64 a, .int .i64 b], .agg #[.int .i64 c, .int .i64 d]] w fun e w' => e = .returned (.tuple #[.agg #[.int .i64 0, .int .i64 0], .int .i64 7]) ∧ Below w.heap.size w w' := by
 go_enter Tryz.func208, Tryz.ntmps208
 go_wp2_with fail
 refine (validRef_any a b _ i1 i2).mono ?_
 rintro e w1 ⟨rfl, hb1⟩
 rw [v1]
 change Below (W3 a b c d w).heap.size (W3 a b c d w) w1 at hb1
 have hb := (W3_below a b c d w).then_ hb1
 have KA := (W3_a a b c d w).on hb1
 have KB := (W3_b a b c d w).on hb1
 have KR := (W3_r a b c d w).on hb1
 have hs : w.heap.size ≤ w.heap.size + 1 + 1 := by omega
 obtain ⟨a10, a11⟩ := KA.two
 obtain ⟨b10, b11⟩ := KB.two
 obtain ⟨r10, r11⟩ := KR.two
 have q10 := KR.free 0
 have q11 := KR.free 1
 go_wp2_with fail
 refine (validRef_any c d _ i3 i4).mono ?_
 rintro e w2 ⟨rfl, hb2⟩
 rw [v2]
 replace hb := hb.then_ hb2
 replace KA := KA.on hb2
 replace KB := KB.on hb2
 replace KR := KR.on hb2
 obtain ⟨a20, a21⟩ := KA.two
 obtain ⟨b20, b21⟩ := KB.two
 obtain ⟨r20, r21⟩ := KR.two
 have q20 := KR.free 0
 have q21 := KR.free 1
 have Kz : Known _ _ _ #[.int .i64 0, .int .i64 0] := (KR.put 0 (.int .i64 0)).put 1 (.int .i64 0)
 obtain ⟨z0, z1⟩ := Kz.two
 go_wp2
 exact bodyPost_ret (v := .tuple #[.agg #[.int .i64 0, .int .i64 0], .int .i64 7]) (by simp [results, Tryz.results208, go_sem, z0, z1]) rfl ⟨rfl, (hb.setCell (p := ⟨w.heap.size + 1 + 1, 0, none⟩) hs _).setCell (p := ⟨w.heap.size + 1 + 1, 1, none⟩) hs _⟩
theorem addR_ok (a b c d : Int) (w : World) (i1 : I64 a) (i2 : I64 b) (i3 : I64 c) (i4 : I64 d) (v1 : Num.val a b = true) (v2 : Num.val c d = true) :
  Calls Tryz.prog 208 #[.agg #[.int .i64 a, .int .i64 b], .agg #[.int .i64 c, .int .i64 d]] w fun e w' => e = .returned (.tuple #[.agg #[.int .i64 (Num.redN (a * d + c * b) (b * d)), .int .i64 (Num.redD (a * d + c * b) (b * d))], .int .i64 (Num.redE (a * d + c * b) (b * d))]) ∧ Below w.heap.size w w' := by
 obtain ⟨k1, k2, k3, k4, k5⟩ := Num.val_iff.1 v1
 obtain ⟨l1, l2, l3, l4, l5⟩ := Num.val_iff.1 v2
 obtain ⟨m1, m2⟩ := mul_bd k1 k2 (show -1000000000 ≤ d by omega) l4
 obtain ⟨m3, m4⟩ := mul_bd l1 l2 (show -1000000000 ≤ b by omega) k4
 obtain ⟨m5, m6⟩ := mul_bd (show -1000000000 ≤ b by omega) k4 (show -1000000000 ≤ d by omega) l4
 obtain ⟨m7, m8⟩ := mul_bd k1 k2 l1 l2
 obtain ⟨m9, m10⟩ := mul_bd (show -1000000000 ≤ b by omega) k4 l1 l2
 have hn : b * d ≠ 0 := Int.mul_ne_zero (by omega) (by omega)
 go_enter Tryz.func208, Tryz.ntmps208
 go_wp2_with fail
 refine (validRef_any a b _ i1 i2).mono ?_
 rintro e w1 ⟨rfl, hb1⟩
 rw [v1]
 change Below (W3 a b c d w).heap.size (W3 a b c d w) w1 at hb1
 have hb := (W3_below a b c d w).then_ hb1
 have KA := (W3_a a b c d w).on hb1
 have KB := (W3_b a b c d w).on hb1
 have KR := (W3_r a b c d w).on hb1
 have hs : w.heap.size ≤ w.heap.size + 1 + 1 := by omega
 obtain ⟨a10, a11⟩ := KA.two
 obtain ⟨b10, b11⟩ := KB.two
 obtain ⟨r10, r11⟩ := KR.two
 have q10 := KR.free 0
 have q11 := KR.free 1
 go_wp2_with fail
 refine (validRef_any c d _ i3 i4).mono ?_
 rintro e w2 ⟨rfl, hb2⟩
 rw [v2]
 replace hb := hb.then_ hb2
 replace KA := KA.on hb2
 replace KB := KB.on hb2
 replace KR := KR.on hb2
 obtain ⟨a20, a21⟩ := KA.two
 obtain ⟨b20, b21⟩ := KB.two
 obtain ⟨r20, r21⟩ := KR.two
 have q20 := KR.free 0
 have q21 := KR.free 1
 go_wp2_with fail
 refine (form_any (a * d + c * b) (b * d) _ hn (by omega) (by omega) (by omega) (by omega)).mono ?_
 rintro e w3 ⟨rfl, hb3⟩
 replace hb := hb.then_ hb3
 replace KR := KR.on hb3
 obtain ⟨r30, r31⟩ := KR.two
 have q30 := KR.free 0
 have q31 := KR.free 1
 have Kz : Known _ _ _ #[.int .i64 (Num.redN (a * d + c * b) (b * d)), .int .i64 (Num.redD (a * d + c * b) (b * d))] := (KR.put 0 (.int .i64 (Num.redN (a * d + c * b) (b * d)))).put 1 (.int .i64 (Num.redD (a * d + c * b) (b * d)))
 obtain ⟨z0, z1⟩ := Kz.two
 go_wp2
 exact bodyPost_ret (v := .tuple #[.agg #[.int .i64 (Num.redN (a * d + c * b) (b * d)), .int .i64 (Num.redD (a * d + c * b) (b * d))], .int .i64 (Num.redE (a * d + c * b) (b * d))]) (by simp [results, Tryz.results208, go_sem, z0, z1]) rfl ⟨rfl, (hb.setCell (p := ⟨w.heap.size + 1 + 1, 0, none⟩) hs _).setCell (p := ⟨w.heap.size + 1 + 1, 1, none⟩) hs _⟩
theorem subP_no1 (a b c d : Int) (w : World) (i1 : I64 a) (i2 : I64 b) (_i3 : I64 c) (_i4 : I64 d) (v1 : Num.val a b = false) :
  Calls Tryz.prog 172 #[.agg #[.int .i64 a, .int .i64 b], .agg #[.int .i64 c, .int .i64 d]] w fun e w' => e = .returned (.tuple #[.agg #[.int .i64 0, .int .i64 0], .int .i64 7]) ∧ Below w.heap.size w w' := by
 go_enter Tryz.func172, Tryz.ntmps172
 go_wp2_with fail
 refine (valid_any a b _ i1 i2).mono ?_
 rintro e w1 ⟨rfl, hb1⟩
 rw [v1]
 change Below (W3 a b c d w).heap.size (W3 a b c d w) w1 at hb1
 have hb := (W3_below a b c d w).then_ hb1
 have KA := (W3_a a b c d w).on hb1
 have KB := (W3_b a b c d w).on hb1
 have KR := (W3_r a b c d w).on hb1
 have hs : w.heap.size ≤ w.heap.size + 1 + 1 := by omega
 obtain ⟨a10, a11⟩ := KA.two
 obtain ⟨b10, b11⟩ := KB.two
 obtain ⟨r10, r11⟩ := KR.two
 have q10 := KR.free 0
 have q11 := KR.free 1
 have Kz : Known _ _ _ #[.int .i64 0, .int .i64 0] := (KR.put 0 (.int .i64 0)).put 1 (.int .i64 0)
 obtain ⟨z0, z1⟩ := Kz.two
 go_wp2
 exact bodyPost_ret (v := .tuple #[.agg #[.int .i64 0, .int .i64 0], .int .i64 7]) (by simp [results, Tryz.results172, go_sem, z0, z1]) rfl ⟨rfl, (hb.setCell (p := ⟨w.heap.size + 1 + 1, 0, none⟩) hs _).setCell (p := ⟨w.heap.size + 1 + 1, 1, none⟩) hs _⟩
theorem subP_no2 (a b c d : Int) (w : World) (i1 : I64 a) (i2 : I64 b) (i3 : I64 c) (i4 : I64 d) (v1 : Num.val a b = true) (v2 : Num.val c d = false) :
  Calls Tryz.prog 172 #[.agg #[.int .i64 a, .int .i64 b], .agg #[.int .i64 c, .int .i64 d]] w fun e w' => e = .returned (.tuple #[.agg #[.int .i64 0, .int .i64 0], .int .i64 7]) ∧ Below w.heap.size w w' := by
 go_enter Tryz.func172, Tryz.ntmps172
 go_wp2_with fail
 refine (valid_any a b _ i1 i2).mono ?_
 rintro e w1 ⟨rfl, hb1⟩
 rw [v1]
 change Below (W3 a b c d w).heap.size (W3 a b c d w) w1 at hb1
 have hb := (W3_below a b c d w).then_ hb1
 have KA := (W3_a a b c d w).on hb1
 have KB := (W3_b a b c d w).on hb1
 have KR := (W3_r a b c d w).on hb1
 have hs : w.heap.size ≤ w.heap.size + 1 + 1 := by omega
 obtain ⟨a10, a11⟩ := KA.two
 obtain ⟨b10, b11⟩ := KB.two
 obtain ⟨r10, r11⟩ := KR.two
 have q10 := KR.free 0
 have q11 := KR.free 1
 go_wp2_with fail
 refine (valid_any c d _ i3 i4).mono ?_
 rintro e w2 ⟨rfl, hb2⟩
 rw [v2]
 replace hb := hb.then_ hb2
 replace KA := KA.on hb2
 replace KB := KB.on hb2
 replace KR := KR.on hb2
 obtain ⟨a20, a21⟩ := KA.two
 obtain ⟨b20, b21⟩ := KB.two
 obtain ⟨r20, r21⟩ := KR.two
 have q20 := KR.free 0
 have q21 := KR.free 1
 have Kz : Known _ _ _ #[.int .i64 0, .int .i64 0] := (KR.put 0 (.int .i64 0)).put 1 (.int .i64 0)
 obtain ⟨z0, z1⟩ := Kz.two
 go_wp2
 exact bodyPost_ret (v := .tuple #[.agg #[.int .i64 0, .int .i64 0], .int .i64 7]) (by simp [results, Tryz.results172, go_sem, z0, z1]) rfl ⟨rfl, (hb.setCell (p := ⟨w.heap.size + 1 + 1, 0, none⟩) hs _).setCell (p := ⟨w.heap.size + 1 + 1, 1, none⟩) hs _⟩
theorem subP_ok (a b c d : Int) (w : World) (i1 : I64 a) (i2 : I64 b) (i3 : I64 c) (i4 : I64 d) (v1 : Num.val a b = true) (v2 : Num.val c d = true) :
  Calls Tryz.prog 172 #[.agg #[.int .i64 a, .int .i64 b], .agg #[.int .i64 c, .int .i64 d]] w fun e w' => e = .returned (.tuple #[.agg #[.int .i64 (Num.redN (a * d - c * b) (b * d)), .int .i64 (Num.redD (a * d - c * b) (b * d))], .int .i64 (Num.redE (a * d - c * b) (b * d))]) ∧ Below w.heap.size w w' := by
 obtain ⟨k1, k2, k3, k4, k5⟩ := Num.val_iff.1 v1
 obtain ⟨l1, l2, l3, l4, l5⟩ := Num.val_iff.1 v2
 obtain ⟨m1, m2⟩ := mul_bd k1 k2 (show -1000000000 ≤ d by omega) l4
 obtain ⟨m3, m4⟩ := mul_bd l1 l2 (show -1000000000 ≤ b by omega) k4
 obtain ⟨m5, m6⟩ := mul_bd (show -1000000000 ≤ b by omega) k4 (show -1000000000 ≤ d by omega) l4
 obtain ⟨m7, m8⟩ := mul_bd k1 k2 l1 l2
 obtain ⟨m9, m10⟩ := mul_bd (show -1000000000 ≤ b by omega) k4 l1 l2
 have hn : b * d ≠ 0 := Int.mul_ne_zero (by omega) (by omega)
 go_enter Tryz.func172, Tryz.ntmps172
 go_wp2_with fail
 refine (valid_any a b _ i1 i2).mono ?_
 rintro e w1 ⟨rfl, hb1⟩
 rw [v1]
 change Below (W3 a b c d w).heap.size (W3 a b c d w) w1 at hb1
 have hb := (W3_below a b c d w).then_ hb1
 have KA := (W3_a a b c d w).on hb1
 have KB := (W3_b a b c d w).on hb1
 have KR := (W3_r a b c d w).on hb1
 have hs : w.heap.size ≤ w.heap.size + 1 + 1 := by omega
 obtain ⟨a10, a11⟩ := KA.two
 obtain ⟨b10, b11⟩ := KB.two
 obtain ⟨r10, r11⟩ := KR.two
 have q10 := KR.free 0
 have q11 := KR.free 1
 go_wp2_with fail
 refine (valid_any c d _ i3 i4).mono ?_
 rintro e w2 ⟨rfl, hb2⟩
 rw [v2]
 replace hb := hb.then_ hb2
 replace KA := KA.on hb2
 replace KB := KB.on hb2
 replace KR := KR.on hb2
 obtain ⟨a20, a21⟩ := KA.two
 obtain ⟨b20, b21⟩ := KB.two
 obtain ⟨r20, r21⟩ := KR.two
 have q20 := KR.free 0
 have q21 := KR.free 1
 go_wp2_with fail
 refine (reduce_any (a * d - c * b) (b * d) _ hn (by omega) (by omega) (by omega) (by omega)).mono ?_
 rintro e w3 ⟨rfl, hb3⟩
 replace hb := hb.then_ hb3
 replace KR := KR.on hb3
 obtain ⟨r30, r31⟩ := KR.two
 have q30 := KR.free 0
 have q31 := KR.free 1
 have Kz : Known _ _ _ #[.int .i64 (Num.redN (a * d - c * b) (b * d)), .int .i64 (Num.redD (a * d - c * b) (b * d))] := (KR.put 0 (.int .i64 (Num.redN (a * d - c * b) (b * d)))).put 1 (.int .i64 (Num.redD (a * d - c * b) (b * d)))
 obtain ⟨z0, z1⟩ := Kz.two
 go_wp2
 exact bodyPost_ret (v := .tuple #[.agg #[.int .i64 (Num.redN (a * d - c * b) (b * d)), .int .i64 (Num.redD (a * d - c * b) (b * d))], .int .i64 (Num.redE (a * d - c * b) (b * d))]) (by simp [results, Tryz.results172, go_sem, z0, z1]) rfl ⟨rfl, (hb.setCell (p := ⟨w.heap.size + 1 + 1, 0, none⟩) hs _).setCell (p := ⟨w.heap.size + 1 + 1, 1, none⟩) hs _⟩
theorem subR_no1 (a b c d : Int) (w : World) (i1 : I64 a) (i2 : I64 b) (_i3 : I64 c) (_i4 : I64 d) (v1 : Num.val a b = false) :
  Calls Tryz.prog 204 #[.agg #[.int .i64 a, .int .i64 b], .agg #[.int .i64 c, .int .i64 d]] w fun e w' => e = .returned (.tuple #[.agg #[.int .i64 0, .int .i64 0], .int .i64 7]) ∧ Below w.heap.size w w' := by
 go_enter Tryz.func204, Tryz.ntmps204
 go_wp2_with fail
 refine (validRef_any a b _ i1 i2).mono ?_
 rintro e w1 ⟨rfl, hb1⟩
 rw [v1]
 change Below (W3 a b c d w).heap.size (W3 a b c d w) w1 at hb1
 have hb := (W3_below a b c d w).then_ hb1
 have KA := (W3_a a b c d w).on hb1
 have KB := (W3_b a b c d w).on hb1
 have KR := (W3_r a b c d w).on hb1
 have hs : w.heap.size ≤ w.heap.size + 1 + 1 := by omega
 obtain ⟨a10, a11⟩ := KA.two
 obtain ⟨b10, b11⟩ := KB.two
 obtain ⟨r10, r11⟩ := KR.two
 have q10 := KR.free 0
 have q11 := KR.free 1
 have Kz : Known _ _ _ #[.int .i64 0, .int .i64 0] := (KR.put 0 (.int .i64 0)).put 1 (.int .i64 0)
 obtain ⟨z0, z1⟩ := Kz.two
 go_wp2
 exact bodyPost_ret (v := .tuple #[.agg #[.int .i64 0, .int .i64 0], .int .i64 7]) (by simp [results, Tryz.results204, go_sem, z0, z1]) rfl ⟨rfl, (hb.setCell (p := ⟨w.heap.size + 1 + 1, 0, none⟩) hs _).setCell (p := ⟨w.heap.size + 1 + 1, 1, none⟩) hs _⟩
theorem subR_no2 (a b c d : Int) (w : World) (i1 : I64 a) (i2 : I64 b) (i3 : I64 c) (i4 : I64 d) (v1 : Num.val a b = true) (v2 : Num.val c d = false) :
  Calls Tryz.prog 204 #[.agg #[.int .i64 a, .int .i64 b], .agg #[.int .i64 c, .int .i64 d]] w fun e w' => e = .returned (.tuple #[.agg #[.int .i64 0, .int .i64 0], .int .i64 7]) ∧ Below w.heap.size w w' := by
 go_enter Tryz.func204, Tryz.ntmps204
 go_wp2_with fail
 refine (validRef_any a b _ i1 i2).mono ?_
 rintro e w1 ⟨rfl, hb1⟩
 rw [v1]
 change Below (W3 a b c d w).heap.size (W3 a b c d w) w1 at hb1
 have hb := (W3_below a b c d w).then_ hb1
 have KA := (W3_a a b c d w).on hb1
 have KB := (W3_b a b c d w).on hb1
 have KR := (W3_r a b c d w).on hb1
 have hs : w.heap.size ≤ w.heap.size + 1 + 1 := by omega
 obtain ⟨a10, a11⟩ := KA.two
 obtain ⟨b10, b11⟩ := KB.two
 obtain ⟨r10, r11⟩ := KR.two
 have q10 := KR.free 0
 have q11 := KR.free 1
 go_wp2_with fail
 refine (validRef_any c d _ i3 i4).mono ?_
 rintro e w2 ⟨rfl, hb2⟩
 rw [v2]
 replace hb := hb.then_ hb2
 replace KA := KA.on hb2
 replace KB := KB.on hb2
 replace KR := KR.on hb2
 obtain ⟨a20, a21⟩ := KA.two
 obtain ⟨b20, b21⟩ := KB.two
 obtain ⟨r20, r21⟩ := KR.two
 have q20 := KR.free 0
 have q21 := KR.free 1
 have Kz : Known _ _ _ #[.int .i64 0, .int .i64 0] := (KR.put 0 (.int .i64 0)).put 1 (.int .i64 0)
 obtain ⟨z0, z1⟩ := Kz.two
 go_wp2
 exact bodyPost_ret (v := .tuple #[.agg #[.int .i64 0, .int .i64 0], .int .i64 7]) (by simp [results, Tryz.results204, go_sem, z0, z1]) rfl ⟨rfl, (hb.setCell (p := ⟨w.heap.size + 1 + 1, 0, none⟩) hs _).setCell (p := ⟨w.heap.size + 1 + 1, 1, none⟩) hs _⟩
theorem subR_ok (a b c d : Int) (w : World) (i1 : I64 a) (i2 : I64 b) (i3 : I64 c) (i4 : I64 d) (v1 : Num.val a b = true) (v2 : Num.val c d = true) :
  Calls Tryz.prog 204 #[.agg #[.int .i64 a, .int .i64 b], .agg #[.int .i64 c, .int .i64 d]] w fun e w' => e = .returned (.tuple #[.agg #[.int .i64 (Num.redN (a * d - c * b) (b * d)), .int .i64 (Num.redD (a * d - c * b) (b * d))], .int .i64 (Num.redE (a * d - c * b) (b * d))]) ∧ Below w.heap.size w w' := by
 obtain ⟨k1, k2, k3, k4, k5⟩ := Num.val_iff.1 v1
 obtain ⟨l1, l2, l3, l4, l5⟩ := Num.val_iff.1 v2
 obtain ⟨m1, m2⟩ := mul_bd k1 k2 (show -1000000000 ≤ d by omega) l4
 obtain ⟨m3, m4⟩ := mul_bd l1 l2 (show -1000000000 ≤ b by omega) k4
 obtain ⟨m5, m6⟩ := mul_bd (show -1000000000 ≤ b by omega) k4 (show -1000000000 ≤ d by omega) l4
 obtain ⟨m7, m8⟩ := mul_bd k1 k2 l1 l2
 obtain ⟨m9, m10⟩ := mul_bd (show -1000000000 ≤ b by omega) k4 l1 l2
 have hn : b * d ≠ 0 := Int.mul_ne_zero (by omega) (by omega)
 go_enter Tryz.func204, Tryz.ntmps204
 go_wp2_with fail
 refine (validRef_any a b _ i1 i2).mono ?_
 rintro e w1 ⟨rfl, hb1⟩
 rw [v1]
 change Below (W3 a b c d w).heap.size (W3 a b c d w) w1 at hb1
 have hb := (W3_below a b c d w).then_ hb1
 have KA := (W3_a a b c d w).on hb1
 have KB := (W3_b a b c d w).on hb1
 have KR := (W3_r a b c d w).on hb1
 have hs : w.heap.size ≤ w.heap.size + 1 + 1 := by omega
 obtain ⟨a10, a11⟩ := KA.two
 obtain ⟨b10, b11⟩ := KB.two
 obtain ⟨r10, r11⟩ := KR.two
 have q10 := KR.free 0
 have q11 := KR.free 1
 go_wp2_with fail
 refine (validRef_any c d _ i3 i4).mono ?_
 rintro e w2 ⟨rfl, hb2⟩
 rw [v2]
 replace hb := hb.then_ hb2
 replace KA := KA.on hb2
 replace KB := KB.on hb2
 replace KR := KR.on hb2
 obtain ⟨a20, a21⟩ := KA.two
 obtain ⟨b20, b21⟩ := KB.two
 obtain ⟨r20, r21⟩ := KR.two
 have q20 := KR.free 0
 have q21 := KR.free 1
 go_wp2_with fail
 refine (form_any (a * d - c * b) (b * d) _ hn (by omega) (by omega) (by omega) (by omega)).mono ?_
 rintro e w3 ⟨rfl, hb3⟩
 replace hb := hb.then_ hb3
 replace KR := KR.on hb3
 obtain ⟨r30, r31⟩ := KR.two
 have q30 := KR.free 0
 have q31 := KR.free 1
 have Kz : Known _ _ _ #[.int .i64 (Num.redN (a * d - c * b) (b * d)), .int .i64 (Num.redD (a * d - c * b) (b * d))] := (KR.put 0 (.int .i64 (Num.redN (a * d - c * b) (b * d)))).put 1 (.int .i64 (Num.redD (a * d - c * b) (b * d)))
 obtain ⟨z0, z1⟩ := Kz.two
 go_wp2
 exact bodyPost_ret (v := .tuple #[.agg #[.int .i64 (Num.redN (a * d - c * b) (b * d)), .int .i64 (Num.redD (a * d - c * b) (b * d))], .int .i64 (Num.redE (a * d - c * b) (b * d))]) (by simp [results, Tryz.results204, go_sem, z0, z1]) rfl ⟨rfl, (hb.setCell (p := ⟨w.heap.size + 1 + 1, 0, none⟩) hs _).setCell (p := ⟨w.heap.size + 1 + 1, 1, none⟩) hs _⟩
theorem mulP_no1 (a b c d : Int) (w : World) (i1 : I64 a) (i2 : I64 b) (_i3 : I64 c) (_i4 : I64 d) (v1 : Num.val a b = false) :
  Calls Tryz.prog 178 #[.agg #[.int .i64 a, .int .i64 b], .agg #[.int .i64 c, .int .i64 d]] w fun e w' => e = .returned (.tuple #[.agg #[.int .i64 0, .int .i64 0], .int .i64 7]) ∧ Below w.heap.size w w' := by
 go_enter Tryz.func178, Tryz.ntmps178
 go_wp2_with fail
 refine (valid_any a b _ i1 i2).mono ?_
 rintro e w1 ⟨rfl, hb1⟩
 rw [v1]
 change Below (W3 a b c d w).heap.size (W3 a b c d w) w1 at hb1
 have hb := (W3_below a b c d w).then_ hb1
 have KA := (W3_a a b c d w).on hb1
 have KB := (W3_b a b c d w).on hb1
 have KR := (W3_r a b c d w).on hb1
 have hs : w.heap.size ≤ w.heap.size + 1 + 1 := by omega
 obtain ⟨a10, a11⟩ := KA.two
 obtain ⟨b10, b11⟩ := KB.two
 obtain ⟨r10, r11⟩ := KR.two
 have q10 := KR.free 0
 have q11 := KR.free 1
 have Kz : Known _ _ _ #[.int .i64 0, .int .i64 0] := (KR.put 0 (.int .i64 0)).put 1 (.int .i64 0)
 obtain ⟨z0, z1⟩ := Kz.two
 go_wp2
 exact bodyPost_ret (v := .tuple #[.agg #[.int .i64 0, .int .i64 0], .int .i64 7]) (by simp [results, Tryz.results178, go_sem, z0, z1]) rfl ⟨rfl, (hb.setCell (p := ⟨w.heap.size + 1 + 1, 0, none⟩) hs _).setCell (p := ⟨w.heap.size + 1 + 1, 1, none⟩) hs _⟩
theorem mulP_no2 (a b c d : Int) (w : World) (i1 : I64 a) (i2 : I64 b) (i3 : I64 c) (i4 : I64 d) (v1 : Num.val a b = true) (v2 : Num.val c d = false) :
  Calls Tryz.prog 178 #[.agg #[.int .i64 a, .int .i64 b], .agg #[.int .i64 c, .int .i64 d]] w fun e w' => e = .returned (.tuple #[.agg #[.int .i64 0, .int .i64 0], .int .i64 7]) ∧ Below w.heap.size w w' := by
 go_enter Tryz.func178, Tryz.ntmps178
 go_wp2_with fail
 refine (valid_any a b _ i1 i2).mono ?_
 rintro e w1 ⟨rfl, hb1⟩
 rw [v1]
 change Below (W3 a b c d w).heap.size (W3 a b c d w) w1 at hb1
 have hb := (W3_below a b c d w).then_ hb1
 have KA := (W3_a a b c d w).on hb1
 have KB := (W3_b a b c d w).on hb1
 have KR := (W3_r a b c d w).on hb1
 have hs : w.heap.size ≤ w.heap.size + 1 + 1 := by omega
 obtain ⟨a10, a11⟩ := KA.two
 obtain ⟨b10, b11⟩ := KB.two
 obtain ⟨r10, r11⟩ := KR.two
 have q10 := KR.free 0
 have q11 := KR.free 1
 go_wp2_with fail
 refine (valid_any c d _ i3 i4).mono ?_
 rintro e w2 ⟨rfl, hb2⟩
 rw [v2]
 replace hb := hb.then_ hb2
 replace KA := KA.on hb2
 replace KB := KB.on hb2
 replace KR := KR.on hb2
 obtain ⟨a20, a21⟩ := KA.two
 obtain ⟨b20, b21⟩ := KB.two
 obtain ⟨r20, r21⟩ := KR.two
 have q20 := KR.free 0
 have q21 := KR.free 1
 have Kz : Known _ _ _ #[.int .i64 0, .int .i64 0] := (KR.put 0 (.int .i64 0)).put 1 (.int .i64 0)
 obtain ⟨z0, z1⟩ := Kz.two
 go_wp2
 exact bodyPost_ret (v := .tuple #[.agg #[.int .i64 0, .int .i64 0], .int .i64 7]) (by simp [results, Tryz.results178, go_sem, z0, z1]) rfl ⟨rfl, (hb.setCell (p := ⟨w.heap.size + 1 + 1, 0, none⟩) hs _).setCell (p := ⟨w.heap.size + 1 + 1, 1, none⟩) hs _⟩
theorem mulP_ok (a b c d : Int) (w : World) (i1 : I64 a) (i2 : I64 b) (i3 : I64 c) (i4 : I64 d) (v1 : Num.val a b = true) (v2 : Num.val c d = true) :
  Calls Tryz.prog 178 #[.agg #[.int .i64 a, .int .i64 b], .agg #[.int .i64 c, .int .i64 d]] w fun e w' => e = .returned (.tuple #[.agg #[.int .i64 (Num.redN (a * c) (b * d)), .int .i64 (Num.redD (a * c) (b * d))], .int .i64 (Num.redE (a * c) (b * d))]) ∧ Below w.heap.size w w' := by
 obtain ⟨k1, k2, k3, k4, k5⟩ := Num.val_iff.1 v1
 obtain ⟨l1, l2, l3, l4, l5⟩ := Num.val_iff.1 v2
 obtain ⟨m1, m2⟩ := mul_bd k1 k2 (show -1000000000 ≤ d by omega) l4
 obtain ⟨m3, m4⟩ := mul_bd l1 l2 (show -1000000000 ≤ b by omega) k4
 obtain ⟨m5, m6⟩ := mul_bd (show -1000000000 ≤ b by omega) k4 (show -1000000000 ≤ d by omega) l4
 obtain ⟨m7, m8⟩ := mul_bd k1 k2 l1 l2
 obtain ⟨m9, m10⟩ := mul_bd (show -1000000000 ≤ b by omega) k4 l1 l2
 have hn : b * d ≠ 0 := Int.mul_ne_zero (by omega) (by omega)
 go_enter Tryz.func178, Tryz.ntmps178
 go_wp2_with fail
 refine (valid_any a b _ i1 i2).mono ?_
 rintro e w1 ⟨rfl, hb1⟩
 rw [v1]
 change Below (W3 a b c d w).heap.size (W3 a b c d w) w1 at hb1
 have hb := (W3_below a b c d w).then_ hb1
 have KA := (W3_a a b c d w).on hb1
 have KB := (W3_b a b c d w).on hb1
 have KR := (W3_r a b c d w).on hb1
 have hs : w.heap.size ≤ w.heap.size + 1 + 1 := by omega
 obtain ⟨a10, a11⟩ := KA.two
 obtain ⟨b10, b11⟩ := KB.two
 obtain ⟨r10, r11⟩ := KR.two
 have q10 := KR.free 0
 have q11 := KR.free 1
 go_wp2_with fail
 refine (valid_any c d _ i3 i4).mono ?_
 rintro e w2 ⟨rfl, hb2⟩
 rw [v2]
 replace hb := hb.then_ hb2
 replace KA := KA.on hb2
 replace KB := KB.on hb2
 replace KR := KR.on hb2
 obtain ⟨a20, a21⟩ := KA.two
 obtain ⟨b20, b21⟩ := KB.two
 obtain ⟨r20, r21⟩ := KR.two
 have q20 := KR.free 0
 have q21 := KR.free 1
 go_wp2_with fail
 refine (reduce_any (a * c) (b * d) _ hn (by omega) (by omega) (by omega) (by omega)).mono ?_
 rintro e w3 ⟨rfl, hb3⟩
 replace hb := hb.then_ hb3
 replace KR := KR.on hb3
 obtain ⟨r30, r31⟩ := KR.two
 have q30 := KR.free 0
 have q31 := KR.free 1
 have Kz : Known _ _ _ #[.int .i64 (Num.redN (a * c) (b * d)), .int .i64 (Num.redD (a * c) (b * d))] := (KR.put 0 (.int .i64 (Num.redN (a * c) (b * d)))).put 1 (.int .i64 (Num.redD (a * c) (b * d)))
 obtain ⟨z0, z1⟩ := Kz.two
 go_wp2
 exact bodyPost_ret (v := .tuple #[.agg #[.int .i64 (Num.redN (a * c) (b * d)), .int .i64 (Num.redD (a * c) (b * d))], .int .i64 (Num.redE (a * c) (b * d))]) (by simp [results, Tryz.results178, go_sem, z0, z1]) rfl ⟨rfl, (hb.setCell (p := ⟨w.heap.size + 1 + 1, 0, none⟩) hs _).setCell (p := ⟨w.heap.size + 1 + 1, 1, none⟩) hs _⟩
theorem mulR_no1 (a b c d : Int) (w : World) (i1 : I64 a) (i2 : I64 b) (_i3 : I64 c) (_i4 : I64 d) (v1 : Num.val a b = false) :
  Calls Tryz.prog 209 #[.agg #[.int .i64 a, .int .i64 b], .agg #[.int .i64 c, .int .i64 d]] w fun e w' => e = .returned (.tuple #[.agg #[.int .i64 0, .int .i64 0], .int .i64 7]) ∧ Below w.heap.size w w' := by
 go_enter Tryz.func209, Tryz.ntmps209
 go_wp2_with fail
 refine (validRef_any a b _ i1 i2).mono ?_
 rintro e w1 ⟨rfl, hb1⟩
 rw [v1]
 change Below (W3 a b c d w).heap.size (W3 a b c d w) w1 at hb1
 have hb := (W3_below a b c d w).then_ hb1
 have KA := (W3_a a b c d w).on hb1
 have KB := (W3_b a b c d w).on hb1
 have KR := (W3_r a b c d w).on hb1
 have hs : w.heap.size ≤ w.heap.size + 1 + 1 := by omega
 obtain ⟨a10, a11⟩ := KA.two
 obtain ⟨b10, b11⟩ := KB.two
 obtain ⟨r10, r11⟩ := KR.two
 have q10 := KR.free 0
 have q11 := KR.free 1
 have Kz : Known _ _ _ #[.int .i64 0, .int .i64 0] := (KR.put 0 (.int .i64 0)).put 1 (.int .i64 0)
 obtain ⟨z0, z1⟩ := Kz.two
 go_wp2
 exact bodyPost_ret (v := .tuple #[.agg #[.int .i64 0, .int .i64 0], .int .i64 7]) (by simp [results, Tryz.results209, go_sem, z0, z1]) rfl ⟨rfl, (hb.setCell (p := ⟨w.heap.size + 1 + 1, 0, none⟩) hs _).setCell (p := ⟨w.heap.size + 1 + 1, 1, none⟩) hs _⟩
theorem mulR_no2 (a b c d : Int) (w : World) (i1 : I64 a) (i2 : I64 b) (i3 : I64 c) (i4 : I64 d) (v1 : Num.val a b = true) (v2 : Num.val c d = false) :
  Calls Tryz.prog 209 #[.agg #[.int .i64 a, .int .i64 b], .agg #[.int .i64 c, .int .i64 d]] w fun e w' => e = .returned (.tuple #[.agg #[.int .i64 0, .int .i64 0], .int .i64 7]) ∧ Below w.heap.size w w' := by
 go_enter Tryz.func209, Tryz.ntmps209
 go_wp2_with fail
 refine (validRef_any a b _ i1 i2).mono ?_
 rintro e w1 ⟨rfl, hb1⟩
 rw [v1]
 change Below (W3 a b c d w).heap.size (W3 a b c d w) w1 at hb1
 have hb := (W3_below a b c d w).then_ hb1
 have KA := (W3_a a b c d w).on hb1
 have KB := (W3_b a b c d w).on hb1
 have KR := (W3_r a b c d w).on hb1
 have hs : w.heap.size ≤ w.heap.size + 1 + 1 := by omega
 obtain ⟨a10, a11⟩ := KA.two
 obtain ⟨b10, b11⟩ := KB.two
 obtain ⟨r10, r11⟩ := KR.two
 have q10 := KR.free 0
 have q11 := KR.free 1
 go_wp2_with fail
 refine (validRef_any c d _ i3 i4).mono ?_
 rintro e w2 ⟨rfl, hb2⟩
 rw [v2]
 replace hb := hb.then_ hb2
 replace KA := KA.on hb2
 replace KB := KB.on hb2
 replace KR := KR.on hb2
 obtain ⟨a20, a21⟩ := KA.two
 obtain ⟨b20, b21⟩ := KB.two
 obtain ⟨r20, r21⟩ := KR.two
 have q20 := KR.free 0
 have q21 := KR.free 1
 have Kz : Known _ _ _ #[.int .i64 0, .int .i64 0] := (KR.put 0 (.int .i64 0)).put 1 (.int .i64 0)
 obtain ⟨z0, z1⟩ := Kz.two
 go_wp2
 exact bodyPost_ret (v := .tuple #[.agg #[.int .i64 0, .int .i64 0], .int .i64 7]) (by simp [results, Tryz.results209, go_sem, z0, z1]) rfl ⟨rfl, (hb.setCell (p := ⟨w.heap.size + 1 + 1, 0, none⟩) hs _).setCell (p := ⟨w.heap.size + 1 + 1, 1, none⟩) hs _⟩
theorem mulR_ok (a b c d : Int) (w : World) (i1 : I64 a) (i2 : I64 b) (i3 : I64 c) (i4 : I64 d) (v1 : Num.val a b = true) (v2 : Num.val c d = true) :
  Calls Tryz.prog 209 #[.agg #[.int .i64 a, .int .i64 b], .agg #[.int .i64 c, .int .i64 d]] w fun e w' => e = .returned (.tuple #[.agg #[.int .i64 (Num.redN (a * c) (b * d)), .int .i64 (Num.redD (a * c) (b * d))], .int .i64 (Num.redE (a * c) (b * d))]) ∧ Below w.heap.size w w' := by
 obtain ⟨k1, k2, k3, k4, k5⟩ := Num.val_iff.1 v1
 obtain ⟨l1, l2, l3, l4, l5⟩ := Num.val_iff.1 v2
 obtain ⟨m1, m2⟩ := mul_bd k1 k2 (show -1000000000 ≤ d by omega) l4
 obtain ⟨m3, m4⟩ := mul_bd l1 l2 (show -1000000000 ≤ b by omega) k4
 obtain ⟨m5, m6⟩ := mul_bd (show -1000000000 ≤ b by omega) k4 (show -1000000000 ≤ d by omega) l4
 obtain ⟨m7, m8⟩ := mul_bd k1 k2 l1 l2
 obtain ⟨m9, m10⟩ := mul_bd (show -1000000000 ≤ b by omega) k4 l1 l2
 have hn : b * d ≠ 0 := Int.mul_ne_zero (by omega) (by omega)
 go_enter Tryz.func209, Tryz.ntmps209
 go_wp2_with fail
 refine (validRef_any a b _ i1 i2).mono ?_
 rintro e w1 ⟨rfl, hb1⟩
 rw [v1]
 change Below (W3 a b c d w).heap.size (W3 a b c d w) w1 at hb1
 have hb := (W3_below a b c d w).then_ hb1
 have KA := (W3_a a b c d w).on hb1
 have KB := (W3_b a b c d w).on hb1
 have KR := (W3_r a b c d w).on hb1
 have hs : w.heap.size ≤ w.heap.size + 1 + 1 := by omega
 obtain ⟨a10, a11⟩ := KA.two
 obtain ⟨b10, b11⟩ := KB.two
 obtain ⟨r10, r11⟩ := KR.two
 have q10 := KR.free 0
 have q11 := KR.free 1
 go_wp2_with fail
 refine (validRef_any c d _ i3 i4).mono ?_
 rintro e w2 ⟨rfl, hb2⟩
 rw [v2]
 replace hb := hb.then_ hb2
 replace KA := KA.on hb2
 replace KB := KB.on hb2
 replace KR := KR.on hb2
 obtain ⟨a20, a21⟩ := KA.two
 obtain ⟨b20, b21⟩ := KB.two
 obtain ⟨r20, r21⟩ := KR.two
 have q20 := KR.free 0
 have q21 := KR.free 1
 go_wp2_with fail
 refine (form_any (a * c) (b * d) _ hn (by omega) (by omega) (by omega) (by omega)).mono ?_
 rintro e w3 ⟨rfl, hb3⟩
 replace hb := hb.then_ hb3
 replace KR := KR.on hb3
 obtain ⟨r30, r31⟩ := KR.two
 have q30 := KR.free 0
 have q31 := KR.free 1
 have Kz : Known _ _ _ #[.int .i64 (Num.redN (a * c) (b * d)), .int .i64 (Num.redD (a * c) (b * d))] := (KR.put 0 (.int .i64 (Num.redN (a * c) (b * d)))).put 1 (.int .i64 (Num.redD (a * c) (b * d)))
 obtain ⟨z0, z1⟩ := Kz.two
 go_wp2
 exact bodyPost_ret (v := .tuple #[.agg #[.int .i64 (Num.redN (a * c) (b * d)), .int .i64 (Num.redD (a * c) (b * d))], .int .i64 (Num.redE (a * c) (b * d))]) (by simp [results, Tryz.results209, go_sem, z0, z1]) rfl ⟨rfl, (hb.setCell (p := ⟨w.heap.size + 1 + 1, 0, none⟩) hs _).setCell (p := ⟨w.heap.size + 1 + 1, 1, none⟩) hs _⟩
theorem divP_no1 (a b c d : Int) (w : World) (i1 : I64 a) (i2 : I64 b) (_i3 : I64 c) (_i4 : I64 d) (v1 : Num.val a b = false) :
  Calls Tryz.prog 179 #[.agg #[.int .i64 a, .int .i64 b], .agg #[.int .i64 c, .int .i64 d]] w fun e w' => e = .returned (.tuple #[.agg #[.int .i64 0, .int .i64 0], .int .i64 7]) ∧ Below w.heap.size w w' := by
 go_enter Tryz.func179, Tryz.ntmps179
 go_wp2_with fail
 refine (valid_any a b _ i1 i2).mono ?_
 rintro e w1 ⟨rfl, hb1⟩
 rw [v1]
 change Below (W3 a b c d w).heap.size (W3 a b c d w) w1 at hb1
 have hb := (W3_below a b c d w).then_ hb1
 have KA := (W3_a a b c d w).on hb1
 have KB := (W3_b a b c d w).on hb1
 have KR := (W3_r a b c d w).on hb1
 have hs : w.heap.size ≤ w.heap.size + 1 + 1 := by omega
 obtain ⟨a10, a11⟩ := KA.two
 obtain ⟨b10, b11⟩ := KB.two
 obtain ⟨r10, r11⟩ := KR.two
 have q10 := KR.free 0
 have q11 := KR.free 1
 have Kz : Known _ _ _ #[.int .i64 0, .int .i64 0] := (KR.put 0 (.int .i64 0)).put 1 (.int .i64 0)
 obtain ⟨z0, z1⟩ := Kz.two
 go_wp2
 exact bodyPost_ret (v := .tuple #[.agg #[.int .i64 0, .int .i64 0], .int .i64 7]) (by simp [results, Tryz.results179, go_sem, z0, z1]) rfl ⟨rfl, (hb.setCell (p := ⟨w.heap.size + 1 + 1, 0, none⟩) hs _).setCell (p := ⟨w.heap.size + 1 + 1, 1, none⟩) hs _⟩
theorem divP_no2 (a b c d : Int) (w : World) (i1 : I64 a) (i2 : I64 b) (i3 : I64 c) (i4 : I64 d) (v1 : Num.val a b = true) (v2 : Num.val c d = false) :
  Calls Tryz.prog 179 #[.agg #[.int .i64 a, .int .i64 b], .agg #[.int .i64 c, .int .i64 d]] w fun e w' => e = .returned (.tuple #[.agg #[.int .i64 0, .int .i64 0], .int .i64 7]) ∧ Below w.heap.size w w' := by
 go_enter Tryz.func179, Tryz.ntmps179
 go_wp2_with fail
 refine (valid_any a b _ i1 i2).mono ?_
 rintro e w1 ⟨rfl, hb1⟩
 rw [v1]
 change Below (W3 a b c d w).heap.size (W3 a b c d w) w1 at hb1
 have hb := (W3_below a b c d w).then_ hb1
 have KA := (W3_a a b c d w).on hb1
 have KB := (W3_b a b c d w).on hb1
 have KR := (W3_r a b c d w).on hb1
 have hs : w.heap.size ≤ w.heap.size + 1 + 1 := by omega
 obtain ⟨a10, a11⟩ := KA.two
 obtain ⟨b10, b11⟩ := KB.two
 obtain ⟨r10, r11⟩ := KR.two
 have q10 := KR.free 0
 have q11 := KR.free 1
 go_wp2_with fail
 refine (valid_any c d _ i3 i4).mono ?_
 rintro e w2 ⟨rfl, hb2⟩
 rw [v2]
 replace hb := hb.then_ hb2
 replace KA := KA.on hb2
 replace KB := KB.on hb2
 replace KR := KR.on hb2
 obtain ⟨a20, a21⟩ := KA.two
 obtain ⟨b20, b21⟩ := KB.two
 obtain ⟨r20, r21⟩ := KR.two
 have q20 := KR.free 0
 have q21 := KR.free 1
 have Kz : Known _ _ _ #[.int .i64 0, .int .i64 0] := (KR.put 0 (.int .i64 0)).put 1 (.int .i64 0)
 obtain ⟨z0, z1⟩ := Kz.two
 go_wp2
 exact bodyPost_ret (v := .tuple #[.agg #[.int .i64 0, .int .i64 0], .int .i64 7]) (by simp [results, Tryz.results179, go_sem, z0, z1]) rfl ⟨rfl, (hb.setCell (p := ⟨w.heap.size + 1 + 1, 0, none⟩) hs _).setCell (p := ⟨w.heap.size + 1 + 1, 1, none⟩) hs _⟩
theorem divP_zero (a b c d : Int) (w : World) (i1 : I64 a) (i2 : I64 b) (i3 : I64 c) (i4 : I64 d) (v1 : Num.val a b = true) (v2 : Num.val c d = true) (hc : c = 0) :
  Calls Tryz.prog 179 #[.agg #[.int .i64 a, .int .i64 b], .agg #[.int .i64 c, .int .i64 d]] w fun e w' => e = .returned (.tuple #[.agg #[.int .i64 0, .int .i64 0], .int .i64 16]) ∧ Below w.heap.size w w' := by
 subst hc
 go_enter Tryz.func179, Tryz.ntmps179
 go_wp2_with fail
 refine (valid_any a b _ i1 i2).mono ?_
 rintro e w1 ⟨rfl, hb1⟩
 rw [v1]
 change Below (W3 a b 0 d w).heap.size (W3 a b 0 d w) w1 at hb1
 have hb := (W3_below a b 0 d w).then_ hb1
 have KA := (W3_a a b 0 d w).on hb1
 have KB := (W3_b a b 0 d w).on hb1
 have KR := (W3_r a b 0 d w).on hb1
 have hs : w.heap.size ≤ w.heap.size + 1 + 1 := by omega
 obtain ⟨a10, a11⟩ := KA.two
 obtain ⟨b10, b11⟩ := KB.two
 obtain ⟨r10, r11⟩ := KR.two
 have q10 := KR.free 0
 have q11 := KR.free 1
 go_wp2_with fail
 refine (valid_any 0 d _ i3 i4).mono ?_
 rintro e w2 ⟨rfl, hb2⟩
 rw [v2]
 replace hb := hb.then_ hb2
 replace KA := KA.on hb2
 replace KB := KB.on hb2
 replace KR := KR.on hb2
 obtain ⟨a20, a21⟩ := KA.two
 obtain ⟨b20, b21⟩ := KB.two
 obtain ⟨r20, r21⟩ := KR.two
 have q20 := KR.free 0
 have q21 := KR.free 1
 have Kz : Known _ _ _ #[.int .i64 0, .int .i64 0] := (KR.put 0 (.int .i64 0)).put 1 (.int .i64 0)
 obtain ⟨z0, z1⟩ := Kz.two
 go_wp2
 exact bodyPost_ret (v := .tuple #[.agg #[.int .i64 0, .int .i64 0], .int .i64 16]) (by simp [results, Tryz.results179, go_sem, z0, z1]) rfl ⟨rfl, (hb.setCell (p := ⟨w.heap.size + 1 + 1, 0, none⟩) hs _).setCell (p := ⟨w.heap.size + 1 + 1, 1, none⟩) hs _⟩
theorem divP_ok (a b c d : Int) (w : World) (i1 : I64 a) (i2 : I64 b) (i3 : I64 c) (i4 : I64 d) (v1 : Num.val a b = true) (v2 : Num.val c d = true) (hc : c ≠ 0) :
  Calls Tryz.prog 179 #[.agg #[.int .i64 a, .int .i64 b], .agg #[.int .i64 c, .int .i64 d]] w fun e w' => e = .returned (.tuple #[.agg #[.int .i64 (Num.redN (a * d) (b * c)), .int .i64 (Num.redD (a * d) (b * c))], .int .i64 (Num.redE (a * d) (b * c))]) ∧ Below w.heap.size w w' := by
 obtain ⟨k1, k2, k3, k4, k5⟩ := Num.val_iff.1 v1
 obtain ⟨l1, l2, l3, l4, l5⟩ := Num.val_iff.1 v2
 obtain ⟨m1, m2⟩ := mul_bd k1 k2 (show -1000000000 ≤ d by omega) l4
 obtain ⟨m3, m4⟩ := mul_bd l1 l2 (show -1000000000 ≤ b by omega) k4
 obtain ⟨m5, m6⟩ := mul_bd (show -1000000000 ≤ b by omega) k4 (show -1000000000 ≤ d by omega) l4
 obtain ⟨m7, m8⟩ := mul_bd k1 k2 l1 l2
 obtain ⟨m9, m10⟩ := mul_bd (show -1000000000 ≤ b by omega) k4 l1 l2
 have hn : b * c ≠ 0 := Int.mul_ne_zero (by omega) (by omega)
 have hc' : (c == 0) = false := by simpa using hc
 go_enter Tryz.func179, Tryz.ntmps179
 go_wp2_with fail
 refine (valid_any a b _ i1 i2).mono ?_
 rintro e w1 ⟨rfl, hb1⟩
 rw [v1]
 change Below (W3 a b c d w).heap.size (W3 a b c d w) w1 at hb1
 have hb := (W3_below a b c d w).then_ hb1
 have KA := (W3_a a b c d w).on hb1
 have KB := (W3_b a b c d w).on hb1
 have KR := (W3_r a b c d w).on hb1
 have hs : w.heap.size ≤ w.heap.size + 1 + 1 := by omega
 obtain ⟨a10, a11⟩ := KA.two
 obtain ⟨b10, b11⟩ := KB.two
 obtain ⟨r10, r11⟩ := KR.two
 have q10 := KR.free 0
 have q11 := KR.free 1
 go_wp2_with fail
 refine (valid_any c d _ i3 i4).mono ?_
 rintro e w2 ⟨rfl, hb2⟩
 rw [v2]
 replace hb := hb.then_ hb2
 replace KA := KA.on hb2
 replace KB := KB.on hb2
 replace KR := KR.on hb2
 obtain ⟨a20, a21⟩ := KA.two
 obtain ⟨b20, b21⟩ := KB.two
 obtain ⟨r20, r21⟩ := KR.two
 have q20 := KR.free 0
 have q21 := KR.free 1
 go_wp2_with fail
 refine (reduce_any (a * d) (b * c) _ hn (by omega) (by omega) (by omega) (by omega)).mono ?_
 rintro e w3 ⟨rfl, hb3⟩
 replace hb := hb.then_ hb3
 replace KR := KR.on hb3
 obtain ⟨r30, r31⟩ := KR.two
 have q30 := KR.free 0
 have q31 := KR.free 1
 have Kz : Known _ _ _ #[.int .i64 (Num.redN (a * d) (b * c)), .int .i64 (Num.redD (a * d) (b * c))] := (KR.put 0 (.int .i64 (Num.redN (a * d) (b * c)))).put 1 (.int .i64 (Num.redD (a * d) (b * c)))
 obtain ⟨z0, z1⟩ := Kz.two
 go_wp2
 exact bodyPost_ret (v := .tuple #[.agg #[.int .i64 (Num.redN (a * d) (b * c)), .int .i64 (Num.redD (a * d) (b * c))], .int .i64 (Num.redE (a * d) (b * c))]) (by simp [results, Tryz.results179, go_sem, z0, z1]) rfl ⟨rfl, (hb.setCell (p := ⟨w.heap.size + 1 + 1, 0, none⟩) hs _).setCell (p := ⟨w.heap.size + 1 + 1, 1, none⟩) hs _⟩
theorem divR_no1 (a b c d : Int) (w : World) (i1 : I64 a) (i2 : I64 b) (_i3 : I64 c) (_i4 : I64 d) (v1 : Num.val a b = false) :
  Calls Tryz.prog 210 #[.agg #[.int .i64 a, .int .i64 b], .agg #[.int .i64 c, .int .i64 d]] w fun e w' => e = .returned (.tuple #[.agg #[.int .i64 0, .int .i64 0], .int .i64 7]) ∧ Below w.heap.size w w' := by
 go_enter Tryz.func210, Tryz.ntmps210
 go_wp2_with fail
 refine (validRef_any a b _ i1 i2).mono ?_
 rintro e w1 ⟨rfl, hb1⟩
 rw [v1]
 change Below (W3 a b c d w).heap.size (W3 a b c d w) w1 at hb1
 have hb := (W3_below a b c d w).then_ hb1
 have KA := (W3_a a b c d w).on hb1
 have KB := (W3_b a b c d w).on hb1
 have KR := (W3_r a b c d w).on hb1
 have hs : w.heap.size ≤ w.heap.size + 1 + 1 := by omega
 obtain ⟨a10, a11⟩ := KA.two
 obtain ⟨b10, b11⟩ := KB.two
 obtain ⟨r10, r11⟩ := KR.two
 have q10 := KR.free 0
 have q11 := KR.free 1
 have Kz : Known _ _ _ #[.int .i64 0, .int .i64 0] := (KR.put 0 (.int .i64 0)).put 1 (.int .i64 0)
 obtain ⟨z0, z1⟩ := Kz.two
 go_wp2
 exact bodyPost_ret (v := .tuple #[.agg #[.int .i64 0, .int .i64 0], .int .i64 7]) (by simp [results, Tryz.results210, go_sem, z0, z1]) rfl ⟨rfl, (hb.setCell (p := ⟨w.heap.size + 1 + 1, 0, none⟩) hs _).setCell (p := ⟨w.heap.size + 1 + 1, 1, none⟩) hs _⟩
theorem divR_no2 (a b c d : Int) (w : World) (i1 : I64 a) (i2 : I64 b) (i3 : I64 c) (i4 : I64 d) (v1 : Num.val a b = true) (v2 : Num.val c d = false) :
  Calls Tryz.prog 210 #[.agg #[.int .i64 a, .int .i64 b], .agg #[.int .i64 c, .int .i64 d]] w fun e w' => e = .returned (.tuple #[.agg #[.int .i64 0, .int .i64 0], .int .i64 7]) ∧ Below w.heap.size w w' := by
 go_enter Tryz.func210, Tryz.ntmps210
 go_wp2_with fail
 refine (validRef_any a b _ i1 i2).mono ?_
 rintro e w1 ⟨rfl, hb1⟩
 rw [v1]
 change Below (W3 a b c d w).heap.size (W3 a b c d w) w1 at hb1
 have hb := (W3_below a b c d w).then_ hb1
 have KA := (W3_a a b c d w).on hb1
 have KB := (W3_b a b c d w).on hb1
 have KR := (W3_r a b c d w).on hb1
 have hs : w.heap.size ≤ w.heap.size + 1 + 1 := by omega
 obtain ⟨a10, a11⟩ := KA.two
 obtain ⟨b10, b11⟩ := KB.two
 obtain ⟨r10, r11⟩ := KR.two
 have q10 := KR.free 0
 have q11 := KR.free 1
 go_wp2_with fail
 refine (validRef_any c d _ i3 i4).mono ?_
 rintro e w2 ⟨rfl, hb2⟩
 rw [v2]
 replace hb := hb.then_ hb2
 replace KA := KA.on hb2
 replace KB := KB.on hb2
 replace KR := KR.on hb2
 obtain ⟨a20, a21⟩ := KA.two
 obtain ⟨b20, b21⟩ := KB.two
 obtain ⟨r20, r21⟩ := KR.two
 have q20 := KR.free 0
 have q21 := KR.free 1
 have Kz : Known _ _ _ #[.int .i64 0, .int .i64 0] := (KR.put 0 (.int .i64 0)).put 1 (.int .i64 0)
 obtain ⟨z0, z1⟩ := Kz.two
 go_wp2
 exact bodyPost_ret (v := .tuple #[.agg #[.int .i64 0, .int .i64 0], .int .i64 7]) (by simp [results, Tryz.results210, go_sem, z0, z1]) rfl ⟨rfl, (hb.setCell (p := ⟨w.heap.size + 1 + 1, 0, none⟩) hs _).setCell (p := ⟨w.heap.size + 1 + 1, 1, none⟩) hs _⟩
theorem divR_zero (a b c d : Int) (w : World) (i1 : I64 a) (i2 : I64 b) (i3 : I64 c) (i4 : I64 d) (v1 : Num.val a b = true) (v2 : Num.val c d = true) (hc : c = 0) :
  Calls Tryz.prog 210 #[.agg #[.int .i64 a, .int .i64 b], .agg #[.int .i64 c, .int .i64 d]] w fun e w' => e = .returned (.tuple #[.agg #[.int .i64 0, .int .i64 0], .int .i64 16]) ∧ Below w.heap.size w w' := by
 subst hc
 go_enter Tryz.func210, Tryz.ntmps210
 go_wp2_with fail
 refine (validRef_any a b _ i1 i2).mono ?_
 rintro e w1 ⟨rfl, hb1⟩
 rw [v1]
 change Below (W3 a b 0 d w).heap.size (W3 a b 0 d w) w1 at hb1
 have hb := (W3_below a b 0 d w).then_ hb1
 have KA := (W3_a a b 0 d w).on hb1
 have KB := (W3_b a b 0 d w).on hb1
 have KR := (W3_r a b 0 d w).on hb1
 have hs : w.heap.size ≤ w.heap.size + 1 + 1 := by omega
 obtain ⟨a10, a11⟩ := KA.two
 obtain ⟨b10, b11⟩ := KB.two
 obtain ⟨r10, r11⟩ := KR.two
 have q10 := KR.free 0
 have q11 := KR.free 1
 go_wp2_with fail
 refine (validRef_any 0 d _ i3 i4).mono ?_
 rintro e w2 ⟨rfl, hb2⟩
 rw [v2]
 replace hb := hb.then_ hb2
 replace KA := KA.on hb2
 replace KB := KB.on hb2
 replace KR := KR.on hb2
 obtain ⟨a20, a21⟩ := KA.two
 obtain ⟨b20, b21⟩ := KB.two
 obtain ⟨r20, r21⟩ := KR.two
 have q20 := KR.free 0
 have q21 := KR.free 1
 have Kz : Known _ _ _ #[.int .i64 0, .int .i64 0] := (KR.put 0 (.int .i64 0)).put 1 (.int .i64 0)
 obtain ⟨z0, z1⟩ := Kz.two
 go_wp2
 exact bodyPost_ret (v := .tuple #[.agg #[.int .i64 0, .int .i64 0], .int .i64 16]) (by simp [results, Tryz.results210, go_sem, z0, z1]) rfl ⟨rfl, (hb.setCell (p := ⟨w.heap.size + 1 + 1, 0, none⟩) hs _).setCell (p := ⟨w.heap.size + 1 + 1, 1, none⟩) hs _⟩
theorem divR_ok (a b c d : Int) (w : World) (i1 : I64 a) (i2 : I64 b) (i3 : I64 c) (i4 : I64 d) (v1 : Num.val a b = true) (v2 : Num.val c d = true) (hc : c ≠ 0) :
  Calls Tryz.prog 210 #[.agg #[.int .i64 a, .int .i64 b], .agg #[.int .i64 c, .int .i64 d]] w fun e w' => e = .returned (.tuple #[.agg #[.int .i64 (Num.redN (a * d) (b * c)), .int .i64 (Num.redD (a * d) (b * c))], .int .i64 (Num.redE (a * d) (b * c))]) ∧ Below w.heap.size w w' := by
 obtain ⟨k1, k2, k3, k4, k5⟩ := Num.val_iff.1 v1
 obtain ⟨l1, l2, l3, l4, l5⟩ := Num.val_iff.1 v2
 obtain ⟨m1, m2⟩ := mul_bd k1 k2 (show -1000000000 ≤ d by omega) l4
 obtain ⟨m3, m4⟩ := mul_bd l1 l2 (show -1000000000 ≤ b by omega) k4
 obtain ⟨m5, m6⟩ := mul_bd (show -1000000000 ≤ b by omega) k4 (show -1000000000 ≤ d by omega) l4
 obtain ⟨m7, m8⟩ := mul_bd k1 k2 l1 l2
 obtain ⟨m9, m10⟩ := mul_bd (show -1000000000 ≤ b by omega) k4 l1 l2
 have hn : b * c ≠ 0 := Int.mul_ne_zero (by omega) (by omega)
 have hc' : (c == 0) = false := by simpa using hc
 go_enter Tryz.func210, Tryz.ntmps210
 go_wp2_with fail
 refine (validRef_any a b _ i1 i2).mono ?_
 rintro e w1 ⟨rfl, hb1⟩
 rw [v1]
 change Below (W3 a b c d w).heap.size (W3 a b c d w) w1 at hb1
 have hb := (W3_below a b c d w).then_ hb1
 have KA := (W3_a a b c d w).on hb1
 have KB := (W3_b a b c d w).on hb1
 have KR := (W3_r a b c d w).on hb1
 have hs : w.heap.size ≤ w.heap.size + 1 + 1 := by omega
 obtain ⟨a10, a11⟩ := KA.two
 obtain ⟨b10, b11⟩ := KB.two
 obtain ⟨r10, r11⟩ := KR.two
 have q10 := KR.free 0
 have q11 := KR.free 1
 go_wp2_with fail
 refine (validRef_any c d _ i3 i4).mono ?_
 rintro e w2 ⟨rfl, hb2⟩
 rw [v2]
 replace hb := hb.then_ hb2
 replace KA := KA.on hb2
 replace KB := KB.on hb2
 replace KR := KR.on hb2
 obtain ⟨a20, a21⟩ := KA.two
 obtain ⟨b20, b21⟩ := KB.two
 obtain ⟨r20, r21⟩ := KR.two
 have q20 := KR.free 0
 have q21 := KR.free 1
 go_wp2_with fail
 refine (form_any (a * d) (b * c) _ hn (by omega) (by omega) (by omega) (by omega)).mono ?_
 rintro e w3 ⟨rfl, hb3⟩
 replace hb := hb.then_ hb3
 replace KR := KR.on hb3
 obtain ⟨r30, r31⟩ := KR.two
 have q30 := KR.free 0
 have q31 := KR.free 1
 have Kz : Known _ _ _ #[.int .i64 (Num.redN (a * d) (b * c)), .int .i64 (Num.redD (a * d) (b * c))] := (KR.put 0 (.int .i64 (Num.redN (a * d) (b * c)))).put 1 (.int .i64 (Num.redD (a * d) (b * c)))
 obtain ⟨z0, z1⟩ := Kz.two
 go_wp2
 exact bodyPost_ret (v := .tuple #[.agg #[.int .i64 (Num.redN (a * d) (b * c)), .int .i64 (Num.redD (a * d) (b * c))], .int .i64 (Num.redE (a * d) (b * c))]) (by simp [results, Tryz.results210, go_sem, z0, z1]) rfl ⟨rfl, (hb.setCell (p := ⟨w.heap.size + 1 + 1, 0, none⟩) hs _).setCell (p := ⟨w.heap.size + 1 + 1, 1, none⟩) hs _⟩
def cmpV (x y : Int) : Int := if x < y then -1 else if y < x then 1 else 0
def cmpN (a b c d : Int) : Int := if Num.val a b = true ∧ Num.val c d = true then cmpV (a * d) (c * b) else 0
def W22 (a b c d : Int) (w : World) : World := (w.alloc (.cells #[.int .i64 a, .int .i64 b] 50)).alloc (.cells #[.int .i64 c, .int .i64 d] 50)
theorem W22_below (a b c d : Int) (w : World) : Below w.heap.size w (W22 a b c d w) := (below_new0 w _).then_ (below_new0 _ _)
theorem W22_a (a b c d : Int) (w : World) : Known (W22 a b c d w) w.heap.size 50 #[.int .i64 a, .int .i64 b] := (Known.made w _ _).alloc _
theorem W22_b (a b c d : Int) (w : World) : Known (W22 a b c d w) (w.heap.size + 1) 50 #[.int .i64 c, .int .i64 d] := by
 have := Known.made (w.alloc (.cells #[.int .i64 a, .int .i64 b] 50)) 50 #[.int .i64 c, .int .i64 d]
 rw [show (w.alloc (.cells #[.int .i64 a, .int .i64 b] 50)).heap.size = w.heap.size + 1 by simp] at this
 exact this
theorem compareP (a b c d : Int) (w : World) (i1 : I64 a) (i2 : I64 b) (i3 : I64 c) (i4 : I64 d) :
  Calls Tryz.prog 176 #[.agg #[.int .i64 a, .int .i64 b], .agg #[.int .i64 c, .int .i64 d]] w fun e w' => e = .returned (.int .i64 (cmpN a b c d)) ∧ Below w.heap.size w w' := by
 cases v1 : Num.val a b
 ·rw [show cmpN a b c d = 0 by simp [cmpN, v1]]
  go_enter Tryz.func176, Tryz.ntmps176
  go_wp2_with fail
  refine (valid_any a b _ i1 i2).mono ?_
  rintro e w1 ⟨rfl, hb1⟩
  rw [v1]
  change Below (W22 a b c d w).heap.size (W22 a b c d w) w1 at hb1
  have hb := (W22_below a b c d w).then_ hb1
  have KA := (W22_a a b c d w).on hb1
  have KB := (W22_b a b c d w).on hb1
  obtain ⟨a10, a11⟩ := KA.two
  obtain ⟨b10, b11⟩ := KB.two
  go_wp2
  go_ret
  exact ⟨rfl, hb⟩
 cases v2 : Num.val c d
 ·rw [show cmpN a b c d = 0 by simp [cmpN, v2]]
  go_enter Tryz.func176, Tryz.ntmps176
  go_wp2_with fail
  refine (valid_any a b _ i1 i2).mono ?_
  rintro e w1 ⟨rfl, hb1⟩
  rw [v1]
  change Below (W22 a b c d w).heap.size (W22 a b c d w) w1 at hb1
  have hb := (W22_below a b c d w).then_ hb1
  have KA := (W22_a a b c d w).on hb1
  have KB := (W22_b a b c d w).on hb1
  obtain ⟨a10, a11⟩ := KA.two
  obtain ⟨b10, b11⟩ := KB.two
  go_wp2_with fail
  refine (valid_any c d _ i3 i4).mono ?_
  rintro e w2 ⟨rfl, hb2⟩
  rw [v2]
  replace hb := hb.then_ hb2
  replace KA := KA.on hb2
  replace KB := KB.on hb2
  obtain ⟨a20, a21⟩ := KA.two
  obtain ⟨b20, b21⟩ := KB.two
  go_wp2
  go_ret
  exact ⟨rfl, hb⟩
 obtain ⟨k1, k2, k3, k4, k5⟩ := Num.val_iff.1 v1
 obtain ⟨l1, l2, l3, l4, l5⟩ := Num.val_iff.1 v2
 obtain ⟨m1, m2⟩ := mul_bd k1 k2 (show -1000000000 ≤ d by omega) l4
 obtain ⟨m3, m4⟩ := mul_bd l1 l2 (show -1000000000 ≤ b by omega) k4
 rw [show cmpN a b c d = cmpV (a * d) (c * b) by simp [cmpN, v1, v2]]
 unfold cmpV
 by_cases h1 : a * d < c * b
 ·rw [if_pos h1]
  go_enter Tryz.func176, Tryz.ntmps176
  go_wp2_with fail
  refine (valid_any a b _ i1 i2).mono ?_
  rintro e w1 ⟨rfl, hb1⟩
  rw [v1]
  change Below (W22 a b c d w).heap.size (W22 a b c d w) w1 at hb1
  have hb := (W22_below a b c d w).then_ hb1
  have KA := (W22_a a b c d w).on hb1
  have KB := (W22_b a b c d w).on hb1
  obtain ⟨a10, a11⟩ := KA.two
  obtain ⟨b10, b11⟩ := KB.two
  go_wp2_with fail
  refine (valid_any c d _ i3 i4).mono ?_
  rintro e w2 ⟨rfl, hb2⟩
  rw [v2]
  replace hb := hb.then_ hb2
  replace KA := KA.on hb2
  replace KB := KB.on hb2
  obtain ⟨a20, a21⟩ := KA.two
  obtain ⟨b20, b21⟩ := KB.two
  go_wp2
  go_region
  all_goals (try go_wp2)
  all_goals (go_ret; exact ⟨rfl, hb.drew⟩)
 by_cases h2 : c * b < a * d
 ·rw [if_neg h1, if_pos h2]
  go_enter Tryz.func176, Tryz.ntmps176
  go_wp2_with fail
  refine (valid_any a b _ i1 i2).mono ?_
  rintro e w1 ⟨rfl, hb1⟩
  rw [v1]
  change Below (W22 a b c d w).heap.size (W22 a b c d w) w1 at hb1
  have hb := (W22_below a b c d w).then_ hb1
  have KA := (W22_a a b c d w).on hb1
  have KB := (W22_b a b c d w).on hb1
  obtain ⟨a10, a11⟩ := KA.two
  obtain ⟨b10, b11⟩ := KB.two
  go_wp2_with fail
  refine (valid_any c d _ i3 i4).mono ?_
  rintro e w2 ⟨rfl, hb2⟩
  rw [v2]
  replace hb := hb.then_ hb2
  replace KA := KA.on hb2
  replace KB := KB.on hb2
  obtain ⟨a20, a21⟩ := KA.two
  obtain ⟨b20, b21⟩ := KB.two
  go_wp2
  go_region
  all_goals (try go_wp2)
  all_goals (go_ret; exact ⟨rfl, hb.drew⟩)
 ·rw [if_neg h1, if_neg h2]
  go_enter Tryz.func176, Tryz.ntmps176
  go_wp2_with fail
  refine (valid_any a b _ i1 i2).mono ?_
  rintro e w1 ⟨rfl, hb1⟩
  rw [v1]
  change Below (W22 a b c d w).heap.size (W22 a b c d w) w1 at hb1
  have hb := (W22_below a b c d w).then_ hb1
  have KA := (W22_a a b c d w).on hb1
  have KB := (W22_b a b c d w).on hb1
  obtain ⟨a10, a11⟩ := KA.two
  obtain ⟨b10, b11⟩ := KB.two
  go_wp2_with fail
  refine (valid_any c d _ i3 i4).mono ?_
  rintro e w2 ⟨rfl, hb2⟩
  rw [v2]
  replace hb := hb.then_ hb2
  replace KA := KA.on hb2
  replace KB := KB.on hb2
  obtain ⟨a20, a21⟩ := KA.two
  obtain ⟨b20, b21⟩ := KB.two
  go_wp2
  go_region
  all_goals (try go_wp2)
  all_goals (go_ret; exact ⟨rfl, hb.drew⟩)
theorem compareR (a b c d : Int) (w : World) (i1 : I64 a) (i2 : I64 b) (i3 : I64 c) (i4 : I64 d) :
  Calls Tryz.prog 207 #[.agg #[.int .i64 a, .int .i64 b], .agg #[.int .i64 c, .int .i64 d]] w fun e w' => e = .returned (.int .i64 (cmpN a b c d)) ∧ Below w.heap.size w w' := by
 cases v1 : Num.val a b
 ·rw [show cmpN a b c d = 0 by simp [cmpN, v1]]
  go_enter Tryz.func207, Tryz.ntmps207
  go_wp2_with fail
  refine (validRef_any a b _ i1 i2).mono ?_
  rintro e w1 ⟨rfl, hb1⟩
  rw [v1]
  change Below (W22 a b c d w).heap.size (W22 a b c d w) w1 at hb1
  have hb := (W22_below a b c d w).then_ hb1
  have KA := (W22_a a b c d w).on hb1
  have KB := (W22_b a b c d w).on hb1
  obtain ⟨a10, a11⟩ := KA.two
  obtain ⟨b10, b11⟩ := KB.two
  go_wp2
  go_ret
  exact ⟨rfl, hb⟩
 cases v2 : Num.val c d
 ·rw [show cmpN a b c d = 0 by simp [cmpN, v2]]
  go_enter Tryz.func207, Tryz.ntmps207
  go_wp2_with fail
  refine (validRef_any a b _ i1 i2).mono ?_
  rintro e w1 ⟨rfl, hb1⟩
  rw [v1]
  change Below (W22 a b c d w).heap.size (W22 a b c d w) w1 at hb1
  have hb := (W22_below a b c d w).then_ hb1
  have KA := (W22_a a b c d w).on hb1
  have KB := (W22_b a b c d w).on hb1
  obtain ⟨a10, a11⟩ := KA.two
  obtain ⟨b10, b11⟩ := KB.two
  go_wp2_with fail
  refine (validRef_any c d _ i3 i4).mono ?_
  rintro e w2 ⟨rfl, hb2⟩
  rw [v2]
  replace hb := hb.then_ hb2
  replace KA := KA.on hb2
  replace KB := KB.on hb2
  obtain ⟨a20, a21⟩ := KA.two
  obtain ⟨b20, b21⟩ := KB.two
  go_wp2
  go_ret
  exact ⟨rfl, hb⟩
 obtain ⟨k1, k2, k3, k4, k5⟩ := Num.val_iff.1 v1
 obtain ⟨l1, l2, l3, l4, l5⟩ := Num.val_iff.1 v2
 obtain ⟨m1, m2⟩ := mul_bd k1 k2 (show -1000000000 ≤ d by omega) l4
 obtain ⟨m3, m4⟩ := mul_bd l1 l2 (show -1000000000 ≤ b by omega) k4
 rw [show cmpN a b c d = cmpV (a * d) (c * b) by simp [cmpN, v1, v2]]
 unfold cmpV
 by_cases h1 : a * d < c * b
 ·rw [if_pos h1]
  go_enter Tryz.func207, Tryz.ntmps207
  go_wp2_with fail
  refine (validRef_any a b _ i1 i2).mono ?_
  rintro e w1 ⟨rfl, hb1⟩
  rw [v1]
  change Below (W22 a b c d w).heap.size (W22 a b c d w) w1 at hb1
  have hb := (W22_below a b c d w).then_ hb1
  have KA := (W22_a a b c d w).on hb1
  have KB := (W22_b a b c d w).on hb1
  obtain ⟨a10, a11⟩ := KA.two
  obtain ⟨b10, b11⟩ := KB.two
  go_wp2_with fail
  refine (validRef_any c d _ i3 i4).mono ?_
  rintro e w2 ⟨rfl, hb2⟩
  rw [v2]
  replace hb := hb.then_ hb2
  replace KA := KA.on hb2
  replace KB := KB.on hb2
  obtain ⟨a20, a21⟩ := KA.two
  obtain ⟨b20, b21⟩ := KB.two
  go_wp2
  go_region
  all_goals (try go_wp2)
  all_goals (go_ret; exact ⟨rfl, hb.drew⟩)
 by_cases h2 : c * b < a * d
 ·rw [if_neg h1, if_pos h2]
  go_enter Tryz.func207, Tryz.ntmps207
  go_wp2_with fail
  refine (validRef_any a b _ i1 i2).mono ?_
  rintro e w1 ⟨rfl, hb1⟩
  rw [v1]
  change Below (W22 a b c d w).heap.size (W22 a b c d w) w1 at hb1
  have hb := (W22_below a b c d w).then_ hb1
  have KA := (W22_a a b c d w).on hb1
  have KB := (W22_b a b c d w).on hb1
  obtain ⟨a10, a11⟩ := KA.two
  obtain ⟨b10, b11⟩ := KB.two
  go_wp2_with fail
  refine (validRef_any c d _ i3 i4).mono ?_
  rintro e w2 ⟨rfl, hb2⟩
  rw [v2]
  replace hb := hb.then_ hb2
  replace KA := KA.on hb2
  replace KB := KB.on hb2
  obtain ⟨a20, a21⟩ := KA.two
  obtain ⟨b20, b21⟩ := KB.two
  go_wp2
  go_region
  all_goals (try go_wp2)
  all_goals (go_ret; exact ⟨rfl, hb.drew⟩)
 ·rw [if_neg h1, if_neg h2]
  go_enter Tryz.func207, Tryz.ntmps207
  go_wp2_with fail
  refine (validRef_any a b _ i1 i2).mono ?_
  rintro e w1 ⟨rfl, hb1⟩
  rw [v1]
  change Below (W22 a b c d w).heap.size (W22 a b c d w) w1 at hb1
  have hb := (W22_below a b c d w).then_ hb1
  have KA := (W22_a a b c d w).on hb1
  have KB := (W22_b a b c d w).on hb1
  obtain ⟨a10, a11⟩ := KA.two
  obtain ⟨b10, b11⟩ := KB.two
  go_wp2_with fail
  refine (validRef_any c d _ i3 i4).mono ?_
  rintro e w2 ⟨rfl, hb2⟩
  rw [v2]
  replace hb := hb.then_ hb2
  replace KA := KA.on hb2
  replace KB := KB.on hb2
  obtain ⟨a20, a21⟩ := KA.two
  obtain ⟨b20, b21⟩ := KB.two
  go_wp2
  go_region
  all_goals (try go_wp2)
  all_goals (go_ret; exact ⟨rfl, hb.drew⟩)
def modR (x y : Int) : Int := if x.tmod y ≠ 0 ∧ (x.tmod y < 0 ↔ ¬ y < 0) then x.tmod y + y else x.tmod y
theorem tmod_bd (x y : Int) (hy : y ≠ 0) : max (x.tmod y) (-x.tmod y) < max y (-y) := by
 have h := Int.natAbs_tmod x y
 have h2 : x.natAbs % y.natAbs < y.natAbs := Nat.mod_lt _ (by omega)
 omega
theorem below_any (x y : Int) (w : World) (hy : y ≠ 0) (y1 : -2000000000000000000 ≤ y) (y2 : y ≤ 2000000000000000000) :
  Calls Tryz.prog 237 #[.int .i64 x, .int .i64 y] w fun e w' => e = .returned (.int .i64 (modR x y)) ∧ w = w' := by
 have hb := tmod_bd x y hy
 have hy' : (y == 0) = false := by simpa using hy
 have hm : modR x y = if x.tmod y ≠ 0 ∧ (x.tmod y < 0 ↔ ¬ y < 0) then x.tmod y + y else x.tmod y := rfl
 by_cases h0 : x.tmod y = 0
 ·rw [if_neg (by simp [h0]), h0] at hm
  rw [hm]
  clear hm
  go_enter Tryz.func237, Tryz.ntmps237
  go_wp2
  all_goals (go_ret; exact ⟨rfl, rfl⟩)
 have h0' : (x.tmod y == 0) = false := by simpa using h0
 by_cases h1 : x.tmod y < 0
 ·have h1' : decide (x.tmod y < 0) = true := by simpa using h1
  by_cases h2 : y < 0
  ·have h2' : decide (y < 0) = true := by simpa using h2
   rw [if_neg (by omega)] at hm
   rw [hm]
   clear hm
   go_enter Tryz.func237, Tryz.ntmps237
   go_wp2
   all_goals (go_ret; exact ⟨rfl, rfl⟩)
  ·have h2' : decide (y < 0) = false := by simpa using h2
   rw [if_pos (by omega)] at hm
   rw [hm]
   clear hm
   go_enter Tryz.func237, Tryz.ntmps237
   go_wp2
   all_goals (go_ret; exact ⟨rfl, rfl⟩)
 ·have h1' : decide (x.tmod y < 0) = false := by simpa using h1
  by_cases h2 : y < 0
  ·have h2' : decide (y < 0) = true := by simpa using h2
   rw [if_pos (by omega)] at hm
   rw [hm]
   clear hm
   go_enter Tryz.func237, Tryz.ntmps237
   go_wp2
   all_goals (go_ret; exact ⟨rfl, rfl⟩)
  ·have h2' : decide (y < 0) = false := by simpa using h2
   rw [if_neg (by omega)] at hm
   rw [hm]
   clear hm
   go_enter Tryz.func237, Tryz.ntmps237
   go_wp2
   all_goals (go_ret; exact ⟨rfl, rfl⟩)
theorem floor_tdiv (a b : Int) (hb : 0 < b) : a / b = if a.tmod b < 0 then a.tdiv b - 1 else a.tdiv b := by
 have h1 := Int.mul_tdiv_add_tmod a b
 have h2 := tmod_bd a b (by omega)
 by_cases h : a.tmod b < 0
 ·rw [if_pos h]
  have e : a = (a.tmod b + b) + b * (a.tdiv b - 1) := by rw [Int.mul_sub, Int.mul_one]; omega
  have z : (a.tmod b + b) / b = 0 := Int.ediv_eq_zero_of_lt (by omega) (by omega)
  have k := Int.add_mul_ediv_left (a.tmod b + b) (a.tdiv b - 1) (show b ≠ 0 by omega)
  rw [← e, z] at k
  omega
 ·rw [if_neg h]
  have z : (a.tmod b) / b = 0 := Int.ediv_eq_zero_of_lt (by omega) (by omega)
  have k := Int.add_mul_ediv_left (a.tmod b) (a.tdiv b) (show b ≠ 0 by omega)
  rw [show a.tmod b + b * a.tdiv b = a by omega, z] at k
  omega
theorem modR_pos (a b : Int) (hb : 0 < b) : modR a b = a % b := by
 have h1 := Int.mul_tdiv_add_tmod a b
 have h2 := floor_tdiv a b hb
 have h3 := Int.mul_ediv_add_emod a b
 have h4 := tmod_bd a b (by omega)
 unfold modR
 by_cases h : a.tmod b < 0
 ·rw [if_pos h] at h2
  rw [h2, Int.mul_sub, Int.mul_one] at h3
  rw [if_pos ⟨by omega, by omega⟩]
  omega
 ·rw [if_neg h] at h2
  rw [h2] at h3
  rw [if_neg (by omega)]
  omega
def rndU (a b p : Int) : Int := (2 * max a (-a) * p + b) / (2 * b)
def rndQ (a b p : Int) : Int := if a < 0 then -rndU a b p else rndU a b p
theorem rndU_bd {a b p : Int} (h1 : -1000000000 ≤ a) (h2 : a ≤ 1000000000) (h3 : 1 ≤ b) (h4 : b ≤ 1000000000) (p1 : 1 ≤ p) (p2 : p ≤ 1000000000) :
  0 ≤ 2 * max a (-a) * p ∧ 2 * max a (-a) * p ≤ 2000000000000000000 ∧ 0 ≤ rndU a b p ∧ rndU a b p ≤ 2000000001000000000 := by
 obtain ⟨m1, m2⟩ := mul_bd (x := max a (-a)) (y := p) (by omega) (by omega) (by omega) p2
 have m3 : 0 ≤ max a (-a) * p := Int.mul_nonneg (by omega) (by omega)
 have e : 2 * max a (-a) * p = 2 * (max a (-a) * p) := Int.mul_assoc _ _ _
 have u1 : 0 ≤ rndU a b p := Int.ediv_nonneg (by omega) (by omega)
 have u2 : rndU a b p ≤ 2 * max a (-a) * p + b := Int.ediv_le_self _ (by omega)
 omega
def W2 (a b : Int) (w : World) : World := (w.alloc (.cells #[.int .i64 a, .int .i64 b] 50)).alloc (.cells #[.int .i64 0, .int .i64 0] 50)
theorem W2_below (a b : Int) (w : World) : Below w.heap.size w (W2 a b w) := (below_new0 w _).then_ (below_new0 _ _)
theorem W2_a (a b : Int) (w : World) : Known (W2 a b w) w.heap.size 50 #[.int .i64 a, .int .i64 b] := (Known.made w _ _).alloc _
theorem W2_r (a b : Int) (w : World) : Known (W2 a b w) (w.heap.size + 1) 50 #[.int .i64 0, .int .i64 0] := by
 have := Known.made (w.alloc (.cells #[.int .i64 a, .int .i64 b] 50)) 50 #[.int .i64 0, .int .i64 0]
 rw [show (w.alloc (.cells #[.int .i64 a, .int .i64 b] 50)).heap.size = w.heap.size + 1 by simp] at this
 exact this
theorem roundP_no (a b k : Int) (w : World) (i1 : I64 a) (i2 : I64 b) (v1 : Num.val a b = false) :
  Calls Tryz.prog 120 #[.agg #[.int .i64 a, .int .i64 b], .int .i64 k] w fun e w' => e = .returned (.tuple #[.agg #[.int .i64 0, .int .i64 0], .int .i64 7]) ∧ Below w.heap.size w w' := by
 go_enter Tryz.func120, Tryz.ntmps120
 go_wp2_with fail
 refine (valid_any a b _ i1 i2).mono ?_
 rintro e w1 ⟨rfl, hb1⟩
 rw [v1]
 change Below (W2 a b w).heap.size (W2 a b w) w1 at hb1
 have hb := (W2_below a b w).then_ hb1
 have KA := (W2_a a b w).on hb1
 have KR := (W2_r a b w).on hb1
 have hs : w.heap.size ≤ w.heap.size + 1 := by omega
 obtain ⟨a10, a11⟩ := KA.two
 obtain ⟨r10, r11⟩ := KR.two
 have q10 := KR.free 0
 have q11 := KR.free 1
 have Kz : Known _ _ _ #[.int .i64 0, .int .i64 0] := (KR.put 0 (.int .i64 0)).put 1 (.int .i64 0)
 obtain ⟨z0, z1⟩ := Kz.two
 go_wp2
 exact bodyPost_ret (v := .tuple #[.agg #[.int .i64 0, .int .i64 0], .int .i64 7]) (by simp [results, Tryz.results120, go_sem, z0, z1]) rfl ⟨rfl, (hb.setCell (p := ⟨w.heap.size + 1, 0, none⟩) hs _).setCell (p := ⟨w.heap.size + 1, 1, none⟩) hs _⟩
theorem roundP_range (a b k : Int) (w : World) (i1 : I64 a) (i2 : I64 b) (v1 : Num.val a b = true) (hk : k < 0 ∨ 9 < k) :
  Calls Tryz.prog 120 #[.agg #[.int .i64 a, .int .i64 b], .int .i64 k] w fun e w' => e = .returned (.tuple #[.agg #[.int .i64 0, .int .i64 0], .int .i64 2]) ∧ Below w.heap.size w w' := by
 rcases hk with hk | hk
 ·go_enter Tryz.func120, Tryz.ntmps120
  go_wp2_with fail
  refine (valid_any a b _ i1 i2).mono ?_
  rintro e w1 ⟨rfl, hb1⟩
  rw [v1]
  change Below (W2 a b w).heap.size (W2 a b w) w1 at hb1
  have hb := (W2_below a b w).then_ hb1
  have KA := (W2_a a b w).on hb1
  have KR := (W2_r a b w).on hb1
  have hs : w.heap.size ≤ w.heap.size + 1 := by omega
  obtain ⟨a10, a11⟩ := KA.two
  obtain ⟨r10, r11⟩ := KR.two
  have q10 := KR.free 0
  have q11 := KR.free 1
  have Kz : Known _ _ _ #[.int .i64 0, .int .i64 0] := (KR.put 0 (.int .i64 0)).put 1 (.int .i64 0)
  obtain ⟨z0, z1⟩ := Kz.two
  go_wp2
  exact bodyPost_ret (v := .tuple #[.agg #[.int .i64 0, .int .i64 0], .int .i64 2]) (by simp [results, Tryz.results120, go_sem, z0, z1]) rfl ⟨rfl, (hb.setCell (p := ⟨w.heap.size + 1, 0, none⟩) hs _).setCell (p := ⟨w.heap.size + 1, 1, none⟩) hs _⟩
 ·go_enter Tryz.func120, Tryz.ntmps120
  go_wp2_with fail
  refine (valid_any a b _ i1 i2).mono ?_
  rintro e w1 ⟨rfl, hb1⟩
  rw [v1]
  change Below (W2 a b w).heap.size (W2 a b w) w1 at hb1
  have hb := (W2_below a b w).then_ hb1
  have KA := (W2_a a b w).on hb1
  have KR := (W2_r a b w).on hb1
  have hs : w.heap.size ≤ w.heap.size + 1 := by omega
  obtain ⟨a10, a11⟩ := KA.two
  obtain ⟨r10, r11⟩ := KR.two
  have q10 := KR.free 0
  have q11 := KR.free 1
  have Kz : Known _ _ _ #[.int .i64 0, .int .i64 0] := (KR.put 0 (.int .i64 0)).put 1 (.int .i64 0)
  obtain ⟨z0, z1⟩ := Kz.two
  go_wp2
  exact bodyPost_ret (v := .tuple #[.agg #[.int .i64 0, .int .i64 0], .int .i64 2]) (by simp [results, Tryz.results120, go_sem, z0, z1]) rfl ⟨rfl, (hb.setCell (p := ⟨w.heap.size + 1, 0, none⟩) hs _).setCell (p := ⟨w.heap.size + 1, 1, none⟩) hs _⟩
theorem roundP_ok (a b : Int) (k : Nat) (w : World) (i1 : I64 a) (i2 : I64 b) (v1 : Num.val a b = true) (hk : k ≤ 9) :
  Calls Tryz.prog 120 #[.agg #[.int .i64 a, .int .i64 b], .int .i64 k] w fun e w' => e = .returned (.tuple #[.agg #[.int .i64 (Num.redN (rndQ a b (10 ^ k)) (10 ^ k)), .int .i64 (Num.redD (rndQ a b (10 ^ k)) (10 ^ k))], .int .i64 (Num.redE (rndQ a b (10 ^ k)) (10 ^ k))]) ∧ Below w.heap.size w w' := by
 obtain ⟨k1, k2, k3, k4, k5⟩ := Num.val_iff.1 v1
 obtain ⟨p1, p2⟩ := pow_bd k hk
 have hp : ∀ w, Calls Tryz.prog 57 #[.int .i64 k] w fun e w' => e = .returned (.int .i64 (10 ^ k)) ∧ w = w' := fun w => power_any k w hk
 generalize (10 : Int) ^ k = p at *
 obtain ⟨u1, u2, u3, u4⟩ := rndU_bd k1 k2 k3 k4 p1 p2
 have hu : (2 * max a (-a) * p + b) / (2 * b) = rndU a b p := rfl
 have hq : rndQ a b p = if a < 0 then -rndU a b p else rndU a b p := rfl
 by_cases ha : a < 0
 ·rw [if_pos ha] at hq
  rw [hq]
  go_enter Tryz.func120, Tryz.ntmps120
  go_wp2_with fail
  refine (valid_any a b _ i1 i2).mono ?_
  rintro e w1 ⟨rfl, hb1⟩
  rw [v1]
  change Below (W2 a b w).heap.size (W2 a b w) w1 at hb1
  have hb := (W2_below a b w).then_ hb1
  have KA := (W2_a a b w).on hb1
  have KR := (W2_r a b w).on hb1
  have hs : w.heap.size ≤ w.heap.size + 1 := by omega
  obtain ⟨a10, a11⟩ := KA.two
  obtain ⟨r10, r11⟩ := KR.two
  have q10 := KR.free 0
  have q11 := KR.free 1
  go_wp2_with fail
  refine (hp _).mono ?_
  rintro e w2 ⟨rfl, rfl⟩
  go_wp2_with fail
  have hlt := KA.lt
  have hz : (2 * b == 0) = false := by simp; omega
  refine wp_region_gr (by kernel_rfl) (by kernel_rfl) ?_
  repeat (go_big_quiet_step ((go_at_call 117; exact gr_same (size_any _ _ (by omega) (by omega)))))
  refine wpQuiet_nil ?_
  intro _ hw'; obtain ⟨w5, hw''⟩ := hw'; subst hw''
  have hB := gr_below w1 w5
  generalize gr w1 w5 = w4 at *
  replace hb := hb.then_ hB
  replace KA := KA.on hB
  replace KR := KR.on hB
  obtain ⟨a40, a41⟩ := KA.two
  obtain ⟨r40, r41⟩ := KR.two
  have q40 := KR.free 0
  have q41 := KR.free 1
  go_wp2_with fail
  refine (reduce_any (-rndU a b p) p _ (by omega) (by omega) (by omega) (by omega) (by omega)).mono ?_
  rintro e w3 ⟨rfl, hb3⟩
  replace hb := hb.then_ hb3
  replace KR := KR.on hb3
  obtain ⟨r30, r31⟩ := KR.two
  have q30 := KR.free 0
  have q31 := KR.free 1
  have Kz : Known _ _ _ #[.int .i64 (Num.redN (-rndU a b p) p), .int .i64 (Num.redD (-rndU a b p) p)] := (KR.put 0 (.int .i64 (Num.redN (-rndU a b p) p))).put 1 (.int .i64 (Num.redD (-rndU a b p) p))
  obtain ⟨z0, z1⟩ := Kz.two
  go_wp2
  exact bodyPost_ret (v := .tuple #[.agg #[.int .i64 (Num.redN (-rndU a b p) p), .int .i64 (Num.redD (-rndU a b p) p)], .int .i64 (Num.redE (-rndU a b p) p)]) (by simp [results, Tryz.results120, go_sem, z0, z1]) rfl ⟨rfl, (hb.setCell (p := ⟨w.heap.size + 1, 0, none⟩) hs _).setCell (p := ⟨w.heap.size + 1, 1, none⟩) hs _⟩
 ·rw [if_neg ha] at hq
  rw [hq]
  go_enter Tryz.func120, Tryz.ntmps120
  go_wp2_with fail
  refine (valid_any a b _ i1 i2).mono ?_
  rintro e w1 ⟨rfl, hb1⟩
  rw [v1]
  change Below (W2 a b w).heap.size (W2 a b w) w1 at hb1
  have hb := (W2_below a b w).then_ hb1
  have KA := (W2_a a b w).on hb1
  have KR := (W2_r a b w).on hb1
  have hs : w.heap.size ≤ w.heap.size + 1 := by omega
  obtain ⟨a10, a11⟩ := KA.two
  obtain ⟨r10, r11⟩ := KR.two
  have q10 := KR.free 0
  have q11 := KR.free 1
  go_wp2_with fail
  refine (hp _).mono ?_
  rintro e w2 ⟨rfl, rfl⟩
  go_wp2_with fail
  have hlt := KA.lt
  have hz : (2 * b == 0) = false := by simp; omega
  refine wp_region_gr (by kernel_rfl) (by kernel_rfl) ?_
  repeat (go_big_quiet_step ((go_at_call 117; exact gr_same (size_any _ _ (by omega) (by omega)))))
  refine wpQuiet_nil ?_
  intro _ hw'; obtain ⟨w5, hw''⟩ := hw'; subst hw''
  have hB := gr_below w1 w5
  generalize gr w1 w5 = w4 at *
  replace hb := hb.then_ hB
  replace KA := KA.on hB
  replace KR := KR.on hB
  obtain ⟨a40, a41⟩ := KA.two
  obtain ⟨r40, r41⟩ := KR.two
  have q40 := KR.free 0
  have q41 := KR.free 1
  go_wp2_with fail
  refine (reduce_any (rndU a b p) p _ (by omega) (by omega) (by omega) (by omega) (by omega)).mono ?_
  rintro e w3 ⟨rfl, hb3⟩
  replace hb := hb.then_ hb3
  replace KR := KR.on hb3
  obtain ⟨r30, r31⟩ := KR.two
  have q30 := KR.free 0
  have q31 := KR.free 1
  have Kz : Known _ _ _ #[.int .i64 (Num.redN (rndU a b p) p), .int .i64 (Num.redD (rndU a b p) p)] := (KR.put 0 (.int .i64 (Num.redN (rndU a b p) p))).put 1 (.int .i64 (Num.redD (rndU a b p) p))
  obtain ⟨z0, z1⟩ := Kz.two
  go_wp2
  exact bodyPost_ret (v := .tuple #[.agg #[.int .i64 (Num.redN (rndU a b p) p), .int .i64 (Num.redD (rndU a b p) p)], .int .i64 (Num.redE (rndU a b p) p)]) (by simp [results, Tryz.results120, go_sem, z0, z1]) rfl ⟨rfl, (hb.setCell (p := ⟨w.heap.size + 1, 0, none⟩) hs _).setCell (p := ⟨w.heap.size + 1, 1, none⟩) hs _⟩
theorem roundR_no (a b k : Int) (w : World) (i1 : I64 a) (i2 : I64 b) (v1 : Num.val a b = false) :
  Calls Tryz.prog 155 #[.agg #[.int .i64 a, .int .i64 b], .int .i64 k] w fun e w' => e = .returned (.tuple #[.agg #[.int .i64 0, .int .i64 0], .int .i64 7]) ∧ Below w.heap.size w w' := by
 go_enter Tryz.func155, Tryz.ntmps155
 go_wp2_with fail
 refine (validRef_any a b _ i1 i2).mono ?_
 rintro e w1 ⟨rfl, hb1⟩
 rw [v1]
 change Below (W2 a b w).heap.size (W2 a b w) w1 at hb1
 have hb := (W2_below a b w).then_ hb1
 have KA := (W2_a a b w).on hb1
 have KR := (W2_r a b w).on hb1
 have hs : w.heap.size ≤ w.heap.size + 1 := by omega
 obtain ⟨a10, a11⟩ := KA.two
 obtain ⟨r10, r11⟩ := KR.two
 have q10 := KR.free 0
 have q11 := KR.free 1
 have Kz : Known _ _ _ #[.int .i64 0, .int .i64 0] := (KR.put 0 (.int .i64 0)).put 1 (.int .i64 0)
 obtain ⟨z0, z1⟩ := Kz.two
 go_wp2
 exact bodyPost_ret (v := .tuple #[.agg #[.int .i64 0, .int .i64 0], .int .i64 7]) (by simp [results, Tryz.results155, go_sem, z0, z1]) rfl ⟨rfl, (hb.setCell (p := ⟨w.heap.size + 1, 0, none⟩) hs _).setCell (p := ⟨w.heap.size + 1, 1, none⟩) hs _⟩
theorem roundR_range (a b k : Int) (w : World) (i1 : I64 a) (i2 : I64 b) (v1 : Num.val a b = true) (hk : k < 0 ∨ 9 < k) :
  Calls Tryz.prog 155 #[.agg #[.int .i64 a, .int .i64 b], .int .i64 k] w fun e w' => e = .returned (.tuple #[.agg #[.int .i64 0, .int .i64 0], .int .i64 2]) ∧ Below w.heap.size w w' := by
 rcases hk with hk | hk
 ·go_enter Tryz.func155, Tryz.ntmps155
  go_wp2_with fail
  refine (validRef_any a b _ i1 i2).mono ?_
  rintro e w1 ⟨rfl, hb1⟩
  rw [v1]
  change Below (W2 a b w).heap.size (W2 a b w) w1 at hb1
  have hb := (W2_below a b w).then_ hb1
  have KA := (W2_a a b w).on hb1
  have KR := (W2_r a b w).on hb1
  have hs : w.heap.size ≤ w.heap.size + 1 := by omega
  obtain ⟨a10, a11⟩ := KA.two
  obtain ⟨r10, r11⟩ := KR.two
  have q10 := KR.free 0
  have q11 := KR.free 1
  have Kz : Known _ _ _ #[.int .i64 0, .int .i64 0] := (KR.put 0 (.int .i64 0)).put 1 (.int .i64 0)
  obtain ⟨z0, z1⟩ := Kz.two
  go_wp2
  exact bodyPost_ret (v := .tuple #[.agg #[.int .i64 0, .int .i64 0], .int .i64 2]) (by simp [results, Tryz.results155, go_sem, z0, z1]) rfl ⟨rfl, (hb.setCell (p := ⟨w.heap.size + 1, 0, none⟩) hs _).setCell (p := ⟨w.heap.size + 1, 1, none⟩) hs _⟩
 ·go_enter Tryz.func155, Tryz.ntmps155
  go_wp2_with fail
  refine (validRef_any a b _ i1 i2).mono ?_
  rintro e w1 ⟨rfl, hb1⟩
  rw [v1]
  change Below (W2 a b w).heap.size (W2 a b w) w1 at hb1
  have hb := (W2_below a b w).then_ hb1
  have KA := (W2_a a b w).on hb1
  have KR := (W2_r a b w).on hb1
  have hs : w.heap.size ≤ w.heap.size + 1 := by omega
  obtain ⟨a10, a11⟩ := KA.two
  obtain ⟨r10, r11⟩ := KR.two
  have q10 := KR.free 0
  have q11 := KR.free 1
  have Kz : Known _ _ _ #[.int .i64 0, .int .i64 0] := (KR.put 0 (.int .i64 0)).put 1 (.int .i64 0)
  obtain ⟨z0, z1⟩ := Kz.two
  go_wp2
  exact bodyPost_ret (v := .tuple #[.agg #[.int .i64 0, .int .i64 0], .int .i64 2]) (by simp [results, Tryz.results155, go_sem, z0, z1]) rfl ⟨rfl, (hb.setCell (p := ⟨w.heap.size + 1, 0, none⟩) hs _).setCell (p := ⟨w.heap.size + 1, 1, none⟩) hs _⟩
theorem roundR_ok (a b : Int) (k : Nat) (w : World) (i1 : I64 a) (i2 : I64 b) (v1 : Num.val a b = true) (hk : k ≤ 9) :
  Calls Tryz.prog 155 #[.agg #[.int .i64 a, .int .i64 b], .int .i64 k] w fun e w' => e = .returned (.tuple #[.agg #[.int .i64 (Num.redN (rndQ a b (10 ^ k)) (10 ^ k)), .int .i64 (Num.redD (rndQ a b (10 ^ k)) (10 ^ k))], .int .i64 (Num.redE (rndQ a b (10 ^ k)) (10 ^ k))]) ∧ Below w.heap.size w w' := by
 obtain ⟨k1, k2, k3, k4, k5⟩ := Num.val_iff.1 v1
 obtain ⟨p1, p2⟩ := pow_bd k hk
 have hp : ∀ w, Calls Tryz.prog 91 #[.int .i64 k] w fun e w' => e = .returned (.int .i64 (10 ^ k)) ∧ w = w' := fun w => powerRef_any k w hk
 generalize (10 : Int) ^ k = p at *
 obtain ⟨u1, u2, u3, u4⟩ := rndU_bd k1 k2 k3 k4 p1 p2
 have hu : (2 * max a (-a) * p + b) / (2 * b) = rndU a b p := rfl
 have hq : rndQ a b p = if a < 0 then -rndU a b p else rndU a b p := rfl
 by_cases ha : a < 0
 ·rw [if_pos ha] at hq
  rw [hq]
  go_enter Tryz.func155, Tryz.ntmps155
  go_wp2_with fail
  refine (validRef_any a b _ i1 i2).mono ?_
  rintro e w1 ⟨rfl, hb1⟩
  rw [v1]
  change Below (W2 a b w).heap.size (W2 a b w) w1 at hb1
  have hb := (W2_below a b w).then_ hb1
  have KA := (W2_a a b w).on hb1
  have KR := (W2_r a b w).on hb1
  have hs : w.heap.size ≤ w.heap.size + 1 := by omega
  obtain ⟨a10, a11⟩ := KA.two
  obtain ⟨r10, r11⟩ := KR.two
  have q10 := KR.free 0
  have q11 := KR.free 1
  go_wp2_with fail
  refine (hp _).mono ?_
  rintro e w2 ⟨rfl, rfl⟩
  go_wp2_with fail
  have hlt := KA.lt
  have hz : (2 * b == 0) = false := by simp; omega
  refine wp_region_gr (by kernel_rfl) (by kernel_rfl) ?_
  repeat (go_big_quiet_step ((go_at_call 147; exact gr_same (abs_any _ _ (by omega) (by omega)))))
  refine wpQuiet_nil ?_
  intro _ hw'; obtain ⟨w5, hw''⟩ := hw'; subst hw''
  have hB := gr_below w1 w5
  generalize gr w1 w5 = w4 at *
  replace hb := hb.then_ hB
  replace KA := KA.on hB
  replace KR := KR.on hB
  obtain ⟨a40, a41⟩ := KA.two
  obtain ⟨r40, r41⟩ := KR.two
  have q40 := KR.free 0
  have q41 := KR.free 1
  go_wp2_with fail
  refine (form_any (-rndU a b p) p _ (by omega) (by omega) (by omega) (by omega) (by omega)).mono ?_
  rintro e w3 ⟨rfl, hb3⟩
  replace hb := hb.then_ hb3
  replace KR := KR.on hb3
  obtain ⟨r30, r31⟩ := KR.two
  have q30 := KR.free 0
  have q31 := KR.free 1
  have Kz : Known _ _ _ #[.int .i64 (Num.redN (-rndU a b p) p), .int .i64 (Num.redD (-rndU a b p) p)] := (KR.put 0 (.int .i64 (Num.redN (-rndU a b p) p))).put 1 (.int .i64 (Num.redD (-rndU a b p) p))
  obtain ⟨z0, z1⟩ := Kz.two
  go_wp2
  exact bodyPost_ret (v := .tuple #[.agg #[.int .i64 (Num.redN (-rndU a b p) p), .int .i64 (Num.redD (-rndU a b p) p)], .int .i64 (Num.redE (-rndU a b p) p)]) (by simp [results, Tryz.results155, go_sem, z0, z1]) rfl ⟨rfl, (hb.setCell (p := ⟨w.heap.size + 1, 0, none⟩) hs _).setCell (p := ⟨w.heap.size + 1, 1, none⟩) hs _⟩
 ·rw [if_neg ha] at hq
  rw [hq]
  go_enter Tryz.func155, Tryz.ntmps155
  go_wp2_with fail
  refine (validRef_any a b _ i1 i2).mono ?_
  rintro e w1 ⟨rfl, hb1⟩
  rw [v1]
  change Below (W2 a b w).heap.size (W2 a b w) w1 at hb1
  have hb := (W2_below a b w).then_ hb1
  have KA := (W2_a a b w).on hb1
  have KR := (W2_r a b w).on hb1
  have hs : w.heap.size ≤ w.heap.size + 1 := by omega
  obtain ⟨a10, a11⟩ := KA.two
  obtain ⟨r10, r11⟩ := KR.two
  have q10 := KR.free 0
  have q11 := KR.free 1
  go_wp2_with fail
  refine (hp _).mono ?_
  rintro e w2 ⟨rfl, rfl⟩
  go_wp2_with fail
  have hlt := KA.lt
  have hz : (2 * b == 0) = false := by simp; omega
  refine wp_region_gr (by kernel_rfl) (by kernel_rfl) ?_
  repeat (go_big_quiet_step ((go_at_call 147; exact gr_same (abs_any _ _ (by omega) (by omega)))))
  refine wpQuiet_nil ?_
  intro _ hw'; obtain ⟨w5, hw''⟩ := hw'; subst hw''
  have hB := gr_below w1 w5
  generalize gr w1 w5 = w4 at *
  replace hb := hb.then_ hB
  replace KA := KA.on hB
  replace KR := KR.on hB
  obtain ⟨a40, a41⟩ := KA.two
  obtain ⟨r40, r41⟩ := KR.two
  have q40 := KR.free 0
  have q41 := KR.free 1
  go_wp2_with fail
  refine (form_any (rndU a b p) p _ (by omega) (by omega) (by omega) (by omega) (by omega)).mono ?_
  rintro e w3 ⟨rfl, hb3⟩
  replace hb := hb.then_ hb3
  replace KR := KR.on hb3
  obtain ⟨r30, r31⟩ := KR.two
  have q30 := KR.free 0
  have q31 := KR.free 1
  have Kz : Known _ _ _ #[.int .i64 (Num.redN (rndU a b p) p), .int .i64 (Num.redD (rndU a b p) p)] := (KR.put 0 (.int .i64 (Num.redN (rndU a b p) p))).put 1 (.int .i64 (Num.redD (rndU a b p) p))
  obtain ⟨z0, z1⟩ := Kz.two
  go_wp2
  exact bodyPost_ret (v := .tuple #[.agg #[.int .i64 (Num.redN (rndU a b p) p), .int .i64 (Num.redD (rndU a b p) p)], .int .i64 (Num.redE (rndU a b p) p)]) (by simp [results, Tryz.results155, go_sem, z0, z1]) rfl ⟨rfl, (hb.setCell (p := ⟨w.heap.size + 1, 0, none⟩) hs _).setCell (p := ⟨w.heap.size + 1, 1, none⟩) hs _⟩
end Go.Proofs.YtcklofamaooegaaGreatDoor
namespace Go.Proofs.YtcklofamaooegaaGreatDoor
def opV (z : Bool) (n m a b c d : Int) : Int × Int × Int := if (Num.val a b && Num.val c d) = true then (if (z && c == 0) = true then (0, 0, 16) else Num.red n m) else (0, 0, 7)
theorem opV_ok {z : Bool} {n m a b c d : Int} (v1 : Num.val a b = true) (v2 : Num.val c d = true) (h : z = false ∨ c ≠ 0) : opV z n m a b c d = Num.red n m := by
 unfold opV
 rw [v1, v2, if_pos (by rfl), if_neg]
 rcases h with rfl | h
 ·simp
 ·simp [h]
theorem opV_zero {n m a b c d : Int} (v1 : Num.val a b = true) (v2 : Num.val c d = true) (h : c = 0) : opV true n m a b c d = (0, 0, 16) := by
 unfold opV
 rw [v1, v2, if_pos (by rfl), if_pos (by simp [h])]
def addV (a b c d : Int) : Int × Int × Int := opV false (a * d + c * b) (b * d) a b c d
def subV (a b c d : Int) : Int × Int × Int := opV false (a * d - c * b) (b * d) a b c d
def mulV (a b c d : Int) : Int × Int × Int := opV false (a * c) (b * d) a b c d
def divV (a b c d : Int) : Int × Int × Int := opV true (a * d) (b * c) a b c d
def modV (a b c d : Int) : Int × Int × Int := opV true (modR (a * d) (c * b)) (b * d) a b c d
def roundV (a b k : Int) : Int × Int × Int := if Num.val a b = true then (if k < 0 ∨ 9 < k then (0, 0, 2) else Num.red (rndQ a b (10 ^ k.toNat)) (10 ^ k.toNat)) else (0, 0, 7)
def floorV (a b : Int) : Int × Int := if Num.val a b = true then (a / b, 0) else (0, 7)
end Go.Proofs.YtcklofamaooegaaGreatDoor
