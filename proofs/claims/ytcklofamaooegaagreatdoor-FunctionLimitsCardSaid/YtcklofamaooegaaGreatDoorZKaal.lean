/-
  The claim's own texts, packed. Conditions: those typed in each theorem.
-/
import Derived.Test.YtcklofamaooegaaGreatDoorZKaai
import Derived.Test.YtcklofamaooegaaGreatDoorZKaaf
import Derived.Test.YtcklofamaooegaaGreatDoorZKaaj
set_option maxHeartbeats 4000000
set_option maxRecDepth 10000
set_option linter.unusedVariables false
namespace Go.Proofs.YtcklofamaooegaaGreatDoor
open Go.RowKit
theorem modR_bd (x y : Int) (hy : y ≠ 0) : max (modR x y) (-modR x y) < max y (-y) := by
 have h := tmod_bd x y hy
 unfold modR
 split <;> omega
theorem modP_no1 (a b c d : Int) (w : World) (i1 : I64 a) (i2 : I64 b) (_i3 : I64 c) (_i4 : I64 d) (v1 : Num.val a b = false) :
  Calls Tryz.prog 180 #[.agg #[.int .i64 a, .int .i64 b], .agg #[.int .i64 c, .int .i64 d]] w fun e w' => e = .returned (.tuple #[.agg #[.int .i64 0, .int .i64 0], .int .i64 7]) ∧ Below w.heap.size w w' := by
 go_enter Tryz.func180, Tryz.ntmps180
 go_wp2_with fail
 refine (valid_any a b _ i1 i2).mono ?_
 rintro e w1 ⟨rfl, hb1⟩
 rw [v1]
 change Below (W3 a b c d w).heap.size (W3 a b c d w) w1 at hb1
 have hb := (W3_below a b c d w).then_ hb1
 have KA := (W3_a a b c d w).on hb1
 have KB := (W3_b a b c d w).on hb1
 have KR := (W3_r a b c d w).on hb1
 have hs : w.heap.size ≤ w.heap.size + 1 + 1 := by omega
 obtain ⟨a10, a11⟩ := KA.two
 obtain ⟨b10, b11⟩ := KB.two
 obtain ⟨r10, r11⟩ := KR.two
 have q10 := KR.free 0
 have q11 := KR.free 1
 have Kz : Known _ _ _ #[.int .i64 0, .int .i64 0] := (KR.put 0 (.int .i64 0)).put 1 (.int .i64 0)
 obtain ⟨z0, z1⟩ := Kz.two
 go_wp2
 exact bodyPost_ret (v := .tuple #[.agg #[.int .i64 0, .int .i64 0], .int .i64 7]) (by simp [results, Tryz.results180, go_sem, z0, z1]) rfl ⟨rfl, (hb.setCell (p := ⟨w.heap.size + 1 + 1, 0, none⟩) hs _).setCell (p := ⟨w.heap.size + 1 + 1, 1, none⟩) hs _⟩
theorem modP_no2 (a b c d : Int) (w : World) (i1 : I64 a) (i2 : I64 b) (i3 : I64 c) (i4 : I64 d) (v1 : Num.val a b = true) (v2 : Num.val c d = false) :
  Calls Tryz.prog 180 #[.agg #[.int .i64 a, .int .i64 b], .agg #[.int .i64 c, .int .i64 d]] w fun e w' => e = .returned (.tuple #[.agg #[.int .i64 0, .int .i64 0], .int .i64 7]) ∧ Below w.heap.size w w' := by
 go_enter Tryz.func180, Tryz.ntmps180
 go_wp2_with fail
 refine (valid_any a b _ i1 i2).mono ?_
 rintro e w1 ⟨rfl, hb1⟩
 rw [v1]
 change Below (W3 a b c d w).heap.size (W3 a b c d w) w1 at hb1
 have hb := (W3_below a b c d w).then_ hb1
 have KA := (W3_a a b c d w).on hb1
 have KB := (W3_b a b c d w).on hb1
 have KR := (W3_r a b c d w).on hb1
 have hs : w.heap.size ≤ w.heap.size + 1 + 1 := by omega
 obtain ⟨a10, a11⟩ := KA.two
 obtain ⟨b10, b11⟩ := KB.two
 obtain ⟨r10, r11⟩ := KR.two
 have q10 := KR.free 0
 have q11 := KR.free 1
 go_wp2_with fail
 refine (valid_any c d _ i3 i4).mono ?_
 rintro e w2 ⟨rfl, hb2⟩
 rw [v2]
 replace hb := hb.then_ hb2
 replace KA := KA.on hb2
 replace KB := KB.on hb2
 replace KR := KR.on hb2
 obtain ⟨a20, a21⟩ := KA.two
 obtain ⟨b20, b21⟩ := KB.two
 obtain ⟨r20, r21⟩ := KR.two
 have q20 := KR.free 0
 have q21 := KR.free 1
 have Kz : Known _ _ _ #[.int .i64 0, .int .i64 0] := (KR.put 0 (.int .i64 0)).put 1 (.int .i64 0)
 obtain ⟨z0, z1⟩ := Kz.two
 go_wp2
 exact bodyPost_ret (v := .tuple #[.agg #[.int .i64 0, .int .i64 0], .int .i64 7]) (by simp [results, Tryz.results180, go_sem, z0, z1]) rfl ⟨rfl, (hb.setCell (p := ⟨w.heap.size + 1 + 1, 0, none⟩) hs _).setCell (p := ⟨w.heap.size + 1 + 1, 1, none⟩) hs _⟩
theorem modP_zero (a b c d : Int) (w : World) (i1 : I64 a) (i2 : I64 b) (i3 : I64 c) (i4 : I64 d) (v1 : Num.val a b = true) (v2 : Num.val c d = true) (hc : c = 0) :
  Calls Tryz.prog 180 #[.agg #[.int .i64 a, .int .i64 b], .agg #[.int .i64 c, .int .i64 d]] w fun e w' => e = .returned (.tuple #[.agg #[.int .i64 0, .int .i64 0], .int .i64 16]) ∧ Below w.heap.size w w' := by
 subst hc
 go_enter Tryz.func180, Tryz.ntmps180
 go_wp2_with fail
 refine (valid_any a b _ i1 i2).mono ?_
 rintro e w1 ⟨rfl, hb1⟩
 rw [v1]
 change Below (W3 a b 0 d w).heap.size (W3 a b 0 d w) w1 at hb1
 have hb := (W3_below a b 0 d w).then_ hb1
 have KA := (W3_a a b 0 d w).on hb1
 have KB := (W3_b a b 0 d w).on hb1
 have KR := (W3_r a b 0 d w).on hb1
 have hs : w.heap.size ≤ w.heap.size + 1 + 1 := by omega
 obtain ⟨a10, a11⟩ := KA.two
 obtain ⟨b10, b11⟩ := KB.two
 obtain ⟨r10, r11⟩ := KR.two
 have q10 := KR.free 0
 have q11 := KR.free 1
 go_wp2_with fail
 refine (valid_any 0 d _ i3 i4).mono ?_
 rintro e w2 ⟨rfl, hb2⟩
 rw [v2]
 replace hb := hb.then_ hb2
 replace KA := KA.on hb2
 replace KB := KB.on hb2
 replace KR := KR.on hb2
 obtain ⟨a20, a21⟩ := KA.two
 obtain ⟨b20, b21⟩ := KB.two
 obtain ⟨r20, r21⟩ := KR.two
 have q20 := KR.free 0
 have q21 := KR.free 1
 have Kz : Known _ _ _ #[.int .i64 0, .int .i64 0] := (KR.put 0 (.int .i64 0)).put 1 (.int .i64 0)
 obtain ⟨z0, z1⟩ := Kz.two
 go_wp2
 exact bodyPost_ret (v := .tuple #[.agg #[.int .i64 0, .int .i64 0], .int .i64 16]) (by simp [results, Tryz.results180, go_sem, z0, z1]) rfl ⟨rfl, (hb.setCell (p := ⟨w.heap.size + 1 + 1, 0, none⟩) hs _).setCell (p := ⟨w.heap.size + 1 + 1, 1, none⟩) hs _⟩
theorem modR_no1 (a b c d : Int) (w : World) (i1 : I64 a) (i2 : I64 b) (_i3 : I64 c) (_i4 : I64 d) (v1 : Num.val a b = false) :
  Calls Tryz.prog 211 #[.agg #[.int .i64 a, .int .i64 b], .agg #[.int .i64 c, .int .i64 d]] w fun e w' => e = .returned (.tuple #[.agg #[.int .i64 0, .int .i64 0], .int .i64 7]) ∧ Below w.heap.size w w' := by
 go_enter Tryz.func211, Tryz.ntmps211
 go_wp2_with fail
 refine (validRef_any a b _ i1 i2).mono ?_
 rintro e w1 ⟨rfl, hb1⟩
 rw [v1]
 change Below (W3 a b c d w).heap.size (W3 a b c d w) w1 at hb1
 have hb := (W3_below a b c d w).then_ hb1
 have KA := (W3_a a b c d w).on hb1
 have KB := (W3_b a b c d w).on hb1
 have KR := (W3_r a b c d w).on hb1
 have hs : w.heap.size ≤ w.heap.size + 1 + 1 := by omega
 obtain ⟨a10, a11⟩ := KA.two
 obtain ⟨b10, b11⟩ := KB.two
 obtain ⟨r10, r11⟩ := KR.two
 have q10 := KR.free 0
 have q11 := KR.free 1
 have Kz : Known _ _ _ #[.int .i64 0, .int .i64 0] := (KR.put 0 (.int .i64 0)).put 1 (.int .i64 0)
 obtain ⟨z0, z1⟩ := Kz.two
 go_wp2
 exact bodyPost_ret (v := .tuple #[.agg #[.int .i64 0, .int .i64 0], .int .i64 7]) (by simp [results, Tryz.results211, go_sem, z0, z1]) rfl ⟨rfl, (hb.setCell (p := ⟨w.heap.size + 1 + 1, 0, none⟩) hs _).setCell (p := ⟨w.heap.size + 1 + 1, 1, none⟩) hs _⟩
theorem modR_no2 (a b c d : Int) (w : World) (i1 : I64 a) (i2 : I64 b) (i3 : I64 c) (i4 : I64 d) (v1 : Num.val a b = true) (v2 : Num.val c d = false) :
  Calls Tryz.prog 211 #[.agg #[.int .i64 a, .int .i64 b], .agg #[.int .i64 c, .int .i64 d]] w fun e w' => e = .returned (.tuple #[.agg #[.int .i64 0, .int .i64 0], .int .i64 7]) ∧ Below w.heap.size w w' := by
 go_enter Tryz.func211, Tryz.ntmps211
 go_wp2_with fail
 refine (validRef_any a b _ i1 i2).mono ?_
 rintro e w1 ⟨rfl, hb1⟩
 rw [v1]
 change Below (W3 a b c d w).heap.size (W3 a b c d w) w1 at hb1
 have hb := (W3_below a b c d w).then_ hb1
 have KA := (W3_a a b c d w).on hb1
 have KB := (W3_b a b c d w).on hb1
 have KR := (W3_r a b c d w).on hb1
 have hs : w.heap.size ≤ w.heap.size + 1 + 1 := by omega
 obtain ⟨a10, a11⟩ := KA.two
 obtain ⟨b10, b11⟩ := KB.two
 obtain ⟨r10, r11⟩ := KR.two
 have q10 := KR.free 0
 have q11 := KR.free 1
 go_wp2_with fail
 refine (validRef_any c d _ i3 i4).mono ?_
 rintro e w2 ⟨rfl, hb2⟩
 rw [v2]
 replace hb := hb.then_ hb2
 replace KA := KA.on hb2
 replace KB := KB.on hb2
 replace KR := KR.on hb2
 obtain ⟨a20, a21⟩ := KA.two
 obtain ⟨b20, b21⟩ := KB.two
 obtain ⟨r20, r21⟩ := KR.two
 have q20 := KR.free 0
 have q21 := KR.free 1
 have Kz : Known _ _ _ #[.int .i64 0, .int .i64 0] := (KR.put 0 (.int .i64 0)).put 1 (.int .i64 0)
 obtain ⟨z0, z1⟩ := Kz.two
 go_wp2
 exact bodyPost_ret (v := .tuple #[.agg #[.int .i64 0, .int .i64 0], .int .i64 7]) (by simp [results, Tryz.results211, go_sem, z0, z1]) rfl ⟨rfl, (hb.setCell (p := ⟨w.heap.size + 1 + 1, 0, none⟩) hs _).setCell (p := ⟨w.heap.size + 1 + 1, 1, none⟩) hs _⟩
theorem modR_zero (a b c d : Int) (w : World) (i1 : I64 a) (i2 : I64 b) (i3 : I64 c) (i4 : I64 d) (v1 : Num.val a b = true) (v2 : Num.val c d = true) (hc : c = 0) :
  Calls Tryz.prog 211 #[.agg #[.int .i64 a, .int .i64 b], .agg #[.int .i64 c, .int .i64 d]] w fun e w' => e = .returned (.tuple #[.agg #[.int .i64 0, .int .i64 0], .int .i64 16]) ∧ Below w.heap.size w w' := by
 subst hc
 go_enter Tryz.func211, Tryz.ntmps211
 go_wp2_with fail
 refine (validRef_any a b _ i1 i2).mono ?_
 rintro e w1 ⟨rfl, hb1⟩
 rw [v1]
 change Below (W3 a b 0 d w).heap.size (W3 a b 0 d w) w1 at hb1
 have hb := (W3_below a b 0 d w).then_ hb1
 have KA := (W3_a a b 0 d w).on hb1
 have KB := (W3_b a b 0 d w).on hb1
 have KR := (W3_r a b 0 d w).on hb1
 have hs : w.heap.size ≤ w.heap.size + 1 + 1 := by omega
 obtain ⟨a10, a11⟩ := KA.two
 obtain ⟨b10, b11⟩ := KB.two
 obtain ⟨r10, r11⟩ := KR.two
 have q10 := KR.free 0
 have q11 := KR.free 1
 go_wp2_with fail
 refine (validRef_any 0 d _ i3 i4).mono ?_
 rintro e w2 ⟨rfl, hb2⟩
 rw [v2]
 replace hb := hb.then_ hb2
 replace KA := KA.on hb2
 replace KB := KB.on hb2
 replace KR := KR.on hb2
 obtain ⟨a20, a21⟩ := KA.two
 obtain ⟨b20, b21⟩ := KB.two
 obtain ⟨r20, r21⟩ := KR.two
 have q20 := KR.free 0
 have q21 := KR.free 1
 have Kz : Known _ _ _ #[.int .i64 0, .int .i64 0] := (KR.put 0 (.int .i64 0)).put 1 (.int .i64 0)
 obtain ⟨z0, z1⟩ := Kz.two
 go_wp2
 exact bodyPost_ret (v := .tuple #[.agg #[.int .i64 0, .int .i64 0], .int .i64 16]) (by simp [results, Tryz.results211, go_sem, z0, z1]) rfl ⟨rfl, (hb.setCell (p := ⟨w.heap.size + 1 + 1, 0, none⟩) hs _).setCell (p := ⟨w.heap.size + 1 + 1, 1, none⟩) hs _⟩
theorem modP_ok (a b c d : Int) (w : World) (i1 : I64 a) (i2 : I64 b) (i3 : I64 c) (i4 : I64 d) (v1 : Num.val a b = true) (v2 : Num.val c d = true) (hc : c ≠ 0) :
  Calls Tryz.prog 180 #[.agg #[.int .i64 a, .int .i64 b], .agg #[.int .i64 c, .int .i64 d]] w fun e w' => e = .returned (.tuple #[.agg #[.int .i64 (Num.redN (modR (a * d) (c * b)) (b * d)), .int .i64 (Num.redD (modR (a * d) (c * b)) (b * d))], .int .i64 (Num.redE (modR (a * d) (c * b)) (b * d))]) ∧ Below w.heap.size w w' := by
 obtain ⟨k1, k2, k3, k4, k5⟩ := Num.val_iff.1 v1
 obtain ⟨l1, l2, l3, l4, l5⟩ := Num.val_iff.1 v2
 obtain ⟨m1, m2⟩ := mul_bd k1 k2 (show -1000000000 ≤ d by omega) l4
 obtain ⟨m3, m4⟩ := mul_bd l1 l2 (show -1000000000 ≤ b by omega) k4
 obtain ⟨m5, m6⟩ := mul_bd (show -1000000000 ≤ b by omega) k4 (show -1000000000 ≤ d by omega) l4
 have hn : b * d ≠ 0 := Int.mul_ne_zero (by omega) (by omega)
 have hy : c * b ≠ 0 := Int.mul_ne_zero hc (by omega)
 have hc' : (c == 0) = false := by simpa using hc
 have hy' : (c * b == 0) = false := by simpa using hy
 have hB := tmod_bd (a * d) (c * b) hy
 have hC := modR_bd (a * d) (c * b) hy
 have hM : modR (a * d) (c * b) = if (a * d).tmod (c * b) ≠ 0 ∧ ((a * d).tmod (c * b) < 0 ↔ ¬ c * b < 0) then (a * d).tmod (c * b) + c * b else (a * d).tmod (c * b) := rfl
 have hG : ∀ w, Calls Tryz.prog 171 #[.int .i64 (modR (a * d) (c * b)), .int .i64 (b * d)] w fun e w' => e = .returned (.tuple #[.agg #[.int .i64 (Num.redN (modR (a * d) (c * b)) (b * d)), .int .i64 (Num.redD (modR (a * d) (c * b)) (b * d))], .int .i64 (Num.redE (modR (a * d) (c * b)) (b * d))]) ∧ Below w.heap.size w w' := fun w => reduce_any (modR (a * d) (c * b)) (b * d) w hn (by omega) (by omega) (by omega) (by omega)
 generalize Num.redN (modR (a * d) (c * b)) (b * d) = N at *
 generalize Num.redD (modR (a * d) (c * b)) (b * d) = D at *
 generalize Num.redE (modR (a * d) (c * b)) (b * d) = E at *
 clear hC
 generalize modR (a * d) (c * b) = M at *
 by_cases h0 : (a * d).tmod (c * b) = 0
 ·rw [if_neg (by simp [h0]), h0] at hM
  subst hM
  have h0' : ((a * d).tmod (c * b) == 0) = true := by simpa using h0
  clear hB
  go_enter Tryz.func180, Tryz.ntmps180
  go_wp2_with fail
  refine (valid_any a b _ i1 i2).mono ?_
  rintro e w1 ⟨rfl, hb1⟩
  rw [v1]
  change Below (W3 a b c d w).heap.size (W3 a b c d w) w1 at hb1
  have hb := (W3_below a b c d w).then_ hb1
  have KA := (W3_a a b c d w).on hb1
  have KB := (W3_b a b c d w).on hb1
  have KR := (W3_r a b c d w).on hb1
  have hs : w.heap.size ≤ w.heap.size + 1 + 1 := by omega
  obtain ⟨a10, a11⟩ := KA.two
  obtain ⟨b10, b11⟩ := KB.two
  obtain ⟨r10, r11⟩ := KR.two
  have q10 := KR.free 0
  have q11 := KR.free 1
  go_wp2_with fail
  refine (valid_any c d _ i3 i4).mono ?_
  rintro e w2 ⟨rfl, hb2⟩
  rw [v2]
  replace hb := hb.then_ hb2
  replace KA := KA.on hb2
  replace KB := KB.on hb2
  replace KR := KR.on hb2
  obtain ⟨a20, a21⟩ := KA.two
  obtain ⟨b20, b21⟩ := KB.two
  obtain ⟨r20, r21⟩ := KR.two
  have q20 := KR.free 0
  have q21 := KR.free 1
  go_wp2_with fail
  go_region
  go_wp2_with fail
  refine (hG _).mono ?_
  rintro e w3 ⟨rfl, hb3⟩
  replace hb := hb.drew.then_ hb3
  replace KR := (KR.on (below_drewN (Below.refl _ _) _)).on hb3
  obtain ⟨r30, r31⟩ := KR.two
  have q30 := KR.free 0
  have q31 := KR.free 1
  have Kz : Known _ _ _ #[.int .i64 N, .int .i64 D] := (KR.put 0 (.int .i64 N)).put 1 (.int .i64 D)
  obtain ⟨z0, z1⟩ := Kz.two
  go_wp2
  exact bodyPost_ret (v := .tuple #[.agg #[.int .i64 N, .int .i64 D], .int .i64 E]) (by simp [results, Tryz.results180, go_sem, z0, z1]) rfl ⟨rfl, (hb.setCell (p := ⟨w.heap.size + 1 + 1, 0, none⟩) hs _).setCell (p := ⟨w.heap.size + 1 + 1, 1, none⟩) hs _⟩
 have h0' : ((a * d).tmod (c * b) == 0) = false := by simpa using h0
 by_cases h1 : (a * d).tmod (c * b) < 0
 ·have h1' : decide ((a * d).tmod (c * b) < 0) = true := by simpa using h1
  by_cases h2 : c * b < 0
  ·have h2' : decide (c * b < 0) = true := by simpa using h2
   rw [if_neg (by omega)] at hM
   subst hM
   go_enter Tryz.func180, Tryz.ntmps180
   go_wp2_with fail
   refine (valid_any a b _ i1 i2).mono ?_
   rintro e w1 ⟨rfl, hb1⟩
   rw [v1]
   change Below (W3 a b c d w).heap.size (W3 a b c d w) w1 at hb1
   have hb := (W3_below a b c d w).then_ hb1
   have KA := (W3_a a b c d w).on hb1
   have KB := (W3_b a b c d w).on hb1
   have KR := (W3_r a b c d w).on hb1
   have hs : w.heap.size ≤ w.heap.size + 1 + 1 := by omega
   obtain ⟨a10, a11⟩ := KA.two
   obtain ⟨b10, b11⟩ := KB.two
   obtain ⟨r10, r11⟩ := KR.two
   have q10 := KR.free 0
   have q11 := KR.free 1
   go_wp2_with fail
   refine (valid_any c d _ i3 i4).mono ?_
   rintro e w2 ⟨rfl, hb2⟩
   rw [v2]
   replace hb := hb.then_ hb2
   replace KA := KA.on hb2
   replace KB := KB.on hb2
   replace KR := KR.on hb2
   obtain ⟨a20, a21⟩ := KA.two
   obtain ⟨b20, b21⟩ := KB.two
   obtain ⟨r20, r21⟩ := KR.two
   have q20 := KR.free 0
   have q21 := KR.free 1
   go_wp2_with fail
   go_region
   go_wp2_with fail
   refine (hG _).mono ?_
   rintro e w3 ⟨rfl, hb3⟩
   replace hb := hb.drew.then_ hb3
   replace KR := (KR.on (below_drewN (Below.refl _ _) _)).on hb3
   obtain ⟨r30, r31⟩ := KR.two
   have q30 := KR.free 0
   have q31 := KR.free 1
   have Kz : Known _ _ _ #[.int .i64 N, .int .i64 D] := (KR.put 0 (.int .i64 N)).put 1 (.int .i64 D)
   obtain ⟨z0, z1⟩ := Kz.two
   go_wp2
   exact bodyPost_ret (v := .tuple #[.agg #[.int .i64 N, .int .i64 D], .int .i64 E]) (by simp [results, Tryz.results180, go_sem, z0, z1]) rfl ⟨rfl, (hb.setCell (p := ⟨w.heap.size + 1 + 1, 0, none⟩) hs _).setCell (p := ⟨w.heap.size + 1 + 1, 1, none⟩) hs _⟩
  ·have h2' : decide (c * b < 0) = false := by simpa using h2
   rw [if_pos (by omega)] at hM
   subst hM
   go_enter Tryz.func180, Tryz.ntmps180
   go_wp2_with fail
   refine (valid_any a b _ i1 i2).mono ?_
   rintro e w1 ⟨rfl, hb1⟩
   rw [v1]
   change Below (W3 a b c d w).heap.size (W3 a b c d w) w1 at hb1
   have hb := (W3_below a b c d w).then_ hb1
   have KA := (W3_a a b c d w).on hb1
   have KB := (W3_b a b c d w).on hb1
   have KR := (W3_r a b c d w).on hb1
   have hs : w.heap.size ≤ w.heap.size + 1 + 1 := by omega
   obtain ⟨a10, a11⟩ := KA.two
   obtain ⟨b10, b11⟩ := KB.two
   obtain ⟨r10, r11⟩ := KR.two
   have q10 := KR.free 0
   have q11 := KR.free 1
   go_wp2_with fail
   refine (valid_any c d _ i3 i4).mono ?_
   rintro e w2 ⟨rfl, hb2⟩
   rw [v2]
   replace hb := hb.then_ hb2
   replace KA := KA.on hb2
   replace KB := KB.on hb2
   replace KR := KR.on hb2
   obtain ⟨a20, a21⟩ := KA.two
   obtain ⟨b20, b21⟩ := KB.two
   obtain ⟨r20, r21⟩ := KR.two
   have q20 := KR.free 0
   have q21 := KR.free 1
   go_wp2_with fail
   go_region
   go_wp2_with fail
   refine (hG _).mono ?_
   rintro e w3 ⟨rfl, hb3⟩
   replace hb := hb.drew.then_ hb3
   replace KR := (KR.on (below_drewN (Below.refl _ _) _)).on hb3
   obtain ⟨r30, r31⟩ := KR.two
   have q30 := KR.free 0
   have q31 := KR.free 1
   have Kz : Known _ _ _ #[.int .i64 N, .int .i64 D] := (KR.put 0 (.int .i64 N)).put 1 (.int .i64 D)
   obtain ⟨z0, z1⟩ := Kz.two
   go_wp2
   exact bodyPost_ret (v := .tuple #[.agg #[.int .i64 N, .int .i64 D], .int .i64 E]) (by simp [results, Tryz.results180, go_sem, z0, z1]) rfl ⟨rfl, (hb.setCell (p := ⟨w.heap.size + 1 + 1, 0, none⟩) hs _).setCell (p := ⟨w.heap.size + 1 + 1, 1, none⟩) hs _⟩
 ·have h1' : decide ((a * d).tmod (c * b) < 0) = false := by simpa using h1
  by_cases h2 : c * b < 0
  ·have h2' : decide (c * b < 0) = true := by simpa using h2
   rw [if_pos (by omega)] at hM
   subst hM
   go_enter Tryz.func180, Tryz.ntmps180
   go_wp2_with fail
   refine (valid_any a b _ i1 i2).mono ?_
   rintro e w1 ⟨rfl, hb1⟩
   rw [v1]
   change Below (W3 a b c d w).heap.size (W3 a b c d w) w1 at hb1
   have hb := (W3_below a b c d w).then_ hb1
   have KA := (W3_a a b c d w).on hb1
   have KB := (W3_b a b c d w).on hb1
   have KR := (W3_r a b c d w).on hb1
   have hs : w.heap.size ≤ w.heap.size + 1 + 1 := by omega
   obtain ⟨a10, a11⟩ := KA.two
   obtain ⟨b10, b11⟩ := KB.two
   obtain ⟨r10, r11⟩ := KR.two
   have q10 := KR.free 0
   have q11 := KR.free 1
   go_wp2_with fail
   refine (valid_any c d _ i3 i4).mono ?_
   rintro e w2 ⟨rfl, hb2⟩
   rw [v2]
   replace hb := hb.then_ hb2
   replace KA := KA.on hb2
   replace KB := KB.on hb2
   replace KR := KR.on hb2
   obtain ⟨a20, a21⟩ := KA.two
   obtain ⟨b20, b21⟩ := KB.two
   obtain ⟨r20, r21⟩ := KR.two
   have q20 := KR.free 0
   have q21 := KR.free 1
   go_wp2_with fail
   go_region
   go_wp2_with fail
   refine (hG _).mono ?_
   rintro e w3 ⟨rfl, hb3⟩
   replace hb := hb.drew.then_ hb3
   replace KR := (KR.on (below_drewN (Below.refl _ _) _)).on hb3
   obtain ⟨r30, r31⟩ := KR.two
   have q30 := KR.free 0
   have q31 := KR.free 1
   have Kz : Known _ _ _ #[.int .i64 N, .int .i64 D] := (KR.put 0 (.int .i64 N)).put 1 (.int .i64 D)
   obtain ⟨z0, z1⟩ := Kz.two
   go_wp2
   exact bodyPost_ret (v := .tuple #[.agg #[.int .i64 N, .int .i64 D], .int .i64 E]) (by simp [results, Tryz.results180, go_sem, z0, z1]) rfl ⟨rfl, (hb.setCell (p := ⟨w.heap.size + 1 + 1, 0, none⟩) hs _).setCell (p := ⟨w.heap.size + 1 + 1, 1, none⟩) hs _⟩
  ·have h2' : decide (c * b < 0) = false := by simpa using h2
   rw [if_neg (by omega)] at hM
   subst hM
   go_enter Tryz.func180, Tryz.ntmps180
   go_wp2_with fail
   refine (valid_any a b _ i1 i2).mono ?_
   rintro e w1 ⟨rfl, hb1⟩
   rw [v1]
   change Below (W3 a b c d w).heap.size (W3 a b c d w) w1 at hb1
   have hb := (W3_below a b c d w).then_ hb1
   have KA := (W3_a a b c d w).on hb1
   have KB := (W3_b a b c d w).on hb1
   have KR := (W3_r a b c d w).on hb1
   have hs : w.heap.size ≤ w.heap.size + 1 + 1 := by omega
   obtain ⟨a10, a11⟩ := KA.two
   obtain ⟨b10, b11⟩ := KB.two
   obtain ⟨r10, r11⟩ := KR.two
   have q10 := KR.free 0
   have q11 := KR.free 1
   go_wp2_with fail
   refine (valid_any c d _ i3 i4).mono ?_
   rintro e w2 ⟨rfl, hb2⟩
   rw [v2]
   replace hb := hb.then_ hb2
   replace KA := KA.on hb2
   replace KB := KB.on hb2
   replace KR := KR.on hb2
   obtain ⟨a20, a21⟩ := KA.two
   obtain ⟨b20, b21⟩ := KB.two
   obtain ⟨r20, r21⟩ := KR.two
   have q20 := KR.free 0
   have q21 := KR.free 1
   go_wp2_with fail
   go_region
   go_wp2_with fail
   refine (hG _).mono ?_
   rintro e w3 ⟨rfl, hb3⟩
   replace hb := hb.drew.then_ hb3
   replace KR := (KR.on (below_drewN (Below.refl _ _) _)).on hb3
   obtain ⟨r30, r31⟩ := KR.two
   have q30 := KR.free 0
   have q31 := KR.free 1
   have Kz : Known _ _ _ #[.int .i64 N, .int .i64 D] := (KR.put 0 (.int .i64 N)).put 1 (.int .i64 D)
   obtain ⟨z0, z1⟩ := Kz.two
   go_wp2
   exact bodyPost_ret (v := .tuple #[.agg #[.int .i64 N, .int .i64 D], .int .i64 E]) (by simp [results, Tryz.results180, go_sem, z0, z1]) rfl ⟨rfl, (hb.setCell (p := ⟨w.heap.size + 1 + 1, 0, none⟩) hs _).setCell (p := ⟨w.heap.size + 1 + 1, 1, none⟩) hs _⟩
theorem modR_ok (a b c d : Int) (w : World) (i1 : I64 a) (i2 : I64 b) (i3 : I64 c) (i4 : I64 d) (v1 : Num.val a b = true) (v2 : Num.val c d = true) (hc : c ≠ 0) :
  Calls Tryz.prog 211 #[.agg #[.int .i64 a, .int .i64 b], .agg #[.int .i64 c, .int .i64 d]] w fun e w' => e = .returned (.tuple #[.agg #[.int .i64 (Num.redN (modR (a * d) (c * b)) (b * d)), .int .i64 (Num.redD (modR (a * d) (c * b)) (b * d))], .int .i64 (Num.redE (modR (a * d) (c * b)) (b * d))]) ∧ Below w.heap.size w w' := by
 obtain ⟨k1, k2, k3, k4, k5⟩ := Num.val_iff.1 v1
 obtain ⟨l1, l2, l3, l4, l5⟩ := Num.val_iff.1 v2
 obtain ⟨m1, m2⟩ := mul_bd k1 k2 (show -1000000000 ≤ d by omega) l4
 obtain ⟨m3, m4⟩ := mul_bd l1 l2 (show -1000000000 ≤ b by omega) k4
 obtain ⟨m5, m6⟩ := mul_bd (show -1000000000 ≤ b by omega) k4 (show -1000000000 ≤ d by omega) l4
 have hn : b * d ≠ 0 := Int.mul_ne_zero (by omega) (by omega)
 have hy : c * b ≠ 0 := Int.mul_ne_zero hc (by omega)
 have hc' : (c == 0) = false := by simpa using hc
 have hC := modR_bd (a * d) (c * b) hy
 have hL : ∀ w, Calls Tryz.prog 237 #[.int .i64 (a * d), .int .i64 (c * b)] w fun e w' => e = .returned (.int .i64 (modR (a * d) (c * b))) ∧ w = w' := fun w => below_any (a * d) (c * b) w hy (by omega) (by omega)
 have hG : ∀ w, Calls Tryz.prog 202 #[.int .i64 (modR (a * d) (c * b)), .int .i64 (b * d)] w fun e w' => e = .returned (.tuple #[.agg #[.int .i64 (Num.redN (modR (a * d) (c * b)) (b * d)), .int .i64 (Num.redD (modR (a * d) (c * b)) (b * d))], .int .i64 (Num.redE (modR (a * d) (c * b)) (b * d))]) ∧ Below w.heap.size w w' := fun w => form_any (modR (a * d) (c * b)) (b * d) w hn (by omega) (by omega) (by omega) (by omega)
 generalize Num.redN (modR (a * d) (c * b)) (b * d) = N at *
 generalize Num.redD (modR (a * d) (c * b)) (b * d) = D at *
 generalize Num.redE (modR (a * d) (c * b)) (b * d) = E at *
 generalize modR (a * d) (c * b) = M at *
 clear hC
 go_enter Tryz.func211, Tryz.ntmps211
 go_wp2_with fail
 refine (validRef_any a b _ i1 i2).mono ?_
 rintro e w1 ⟨rfl, hb1⟩
 rw [v1]
 change Below (W3 a b c d w).heap.size (W3 a b c d w) w1 at hb1
 have hb := (W3_below a b c d w).then_ hb1
 have KA := (W3_a a b c d w).on hb1
 have KB := (W3_b a b c d w).on hb1
 have KR := (W3_r a b c d w).on hb1
 have hs : w.heap.size ≤ w.heap.size + 1 + 1 := by omega
 obtain ⟨a10, a11⟩ := KA.two
 obtain ⟨b10, b11⟩ := KB.two
 obtain ⟨r10, r11⟩ := KR.two
 have q10 := KR.free 0
 have q11 := KR.free 1
 go_wp2_with fail
 refine (validRef_any c d _ i3 i4).mono ?_
 rintro e w2 ⟨rfl, hb2⟩
 rw [v2]
 replace hb := hb.then_ hb2
 replace KA := KA.on hb2
 replace KB := KB.on hb2
 replace KR := KR.on hb2
 obtain ⟨a20, a21⟩ := KA.two
 obtain ⟨b20, b21⟩ := KB.two
 obtain ⟨r20, r21⟩ := KR.two
 have q20 := KR.free 0
 have q21 := KR.free 1
 have ltA := KA.lt
 have ltB := KB.lt
 go_wp2_with fail
 refine wp_region_gr_tail 19 (by kernel_rfl) (by kernel_rfl) ?_
 simp only [List.take_succ_cons, List.take_zero, List.drop_succ_cons, List.drop_zero]
 repeat (go_big_quiet_step (first | (go_at_call 237; exact gr_same (hL _)) | (go_at_call 202; exact gr_call (hG _))))
 refine wpQuiet_nil ?_
 intro _ hw'; obtain ⟨w5, hw''⟩ := hw'; subst hw''
 have hB := gr_below w2 w5
 generalize gr w2 w5 = w3 at *
 replace hb := hb.then_ hB
 replace KR := KR.on hB
 obtain ⟨r30, r31⟩ := KR.two
 have q30 := KR.free 0
 have q31 := KR.free 1
 have Kz : Known _ _ _ #[.int .i64 N, .int .i64 D] := (KR.put 0 (.int .i64 N)).put 1 (.int .i64 D)
 obtain ⟨z0, z1⟩ := Kz.two
 go_wp2
 exact bodyPost_ret (v := .tuple #[.agg #[.int .i64 N, .int .i64 D], .int .i64 E]) (by simp [results, Tryz.results211, go_sem, z0, z1]) rfl ⟨rfl, (hb.setCell (p := ⟨w.heap.size + 1 + 1, 0, none⟩) hs _).setCell (p := ⟨w.heap.size + 1 + 1, 1, none⟩) hs _⟩
def Ret (f : FuncId) (args : Array Value) (r : Int × Int × Int) : Prop := ∀ w, Calls Tryz.prog f args w fun e w' => e = .returned (.tuple #[.agg #[.int .i64 r.1, .int .i64 r.2.1], .int .i64 r.2.2]) ∧ Below w.heap.size w w'
abbrev args2 (a b c d : Int) : Array Value := #[.agg #[.int .i64 a, .int .i64 b], .agg #[.int .i64 c, .int .i64 d]]
theorem addP_any (a b c d : Int) (i1 : I64 a) (i2 : I64 b) (i3 : I64 c) (i4 : I64 d) : Ret 177 (args2 a b c d) (addV a b c d) := by
 intro w
 unfold addV opV
 cases v1 : Num.val a b
 ·exact addP_no1 a b c d w i1 i2 i3 i4 v1
 cases v2 : Num.val c d
 ·exact addP_no2 a b c d w i1 i2 i3 i4 v1 v2
 rw [if_pos (by rfl), if_neg (by simp)]
 exact addP_ok a b c d w i1 i2 i3 i4 v1 v2
theorem addR_any (a b c d : Int) (i1 : I64 a) (i2 : I64 b) (i3 : I64 c) (i4 : I64 d) : Ret 208 (args2 a b c d) (addV a b c d) := by
 intro w
 unfold addV opV
 cases v1 : Num.val a b
 ·exact addR_no1 a b c d w i1 i2 i3 i4 v1
 cases v2 : Num.val c d
 ·exact addR_no2 a b c d w i1 i2 i3 i4 v1 v2
 rw [if_pos (by rfl), if_neg (by simp)]
 exact addR_ok a b c d w i1 i2 i3 i4 v1 v2
theorem subP_any (a b c d : Int) (i1 : I64 a) (i2 : I64 b) (i3 : I64 c) (i4 : I64 d) : Ret 172 (args2 a b c d) (subV a b c d) := by
 intro w
 unfold subV opV
 cases v1 : Num.val a b
 ·exact subP_no1 a b c d w i1 i2 i3 i4 v1
 cases v2 : Num.val c d
 ·exact subP_no2 a b c d w i1 i2 i3 i4 v1 v2
 rw [if_pos (by rfl), if_neg (by simp)]
 exact subP_ok a b c d w i1 i2 i3 i4 v1 v2
theorem subR_any (a b c d : Int) (i1 : I64 a) (i2 : I64 b) (i3 : I64 c) (i4 : I64 d) : Ret 204 (args2 a b c d) (subV a b c d) := by
 intro w
 unfold subV opV
 cases v1 : Num.val a b
 ·exact subR_no1 a b c d w i1 i2 i3 i4 v1
 cases v2 : Num.val c d
 ·exact subR_no2 a b c d w i1 i2 i3 i4 v1 v2
 rw [if_pos (by rfl), if_neg (by simp)]
 exact subR_ok a b c d w i1 i2 i3 i4 v1 v2
theorem mulP_any (a b c d : Int) (i1 : I64 a) (i2 : I64 b) (i3 : I64 c) (i4 : I64 d) : Ret 178 (args2 a b c d) (mulV a b c d) := by
 intro w
 unfold mulV opV
 cases v1 : Num.val a b
 ·exact mulP_no1 a b c d w i1 i2 i3 i4 v1
 cases v2 : Num.val c d
 ·exact mulP_no2 a b c d w i1 i2 i3 i4 v1 v2
 rw [if_pos (by rfl), if_neg (by simp)]
 exact mulP_ok a b c d w i1 i2 i3 i4 v1 v2
theorem mulR_any (a b c d : Int) (i1 : I64 a) (i2 : I64 b) (i3 : I64 c) (i4 : I64 d) : Ret 209 (args2 a b c d) (mulV a b c d) := by
 intro w
 unfold mulV opV
 cases v1 : Num.val a b
 ·exact mulR_no1 a b c d w i1 i2 i3 i4 v1
 cases v2 : Num.val c d
 ·exact mulR_no2 a b c d w i1 i2 i3 i4 v1 v2
 rw [if_pos (by rfl), if_neg (by simp)]
 exact mulR_ok a b c d w i1 i2 i3 i4 v1 v2
theorem divP_any (a b c d : Int) (i1 : I64 a) (i2 : I64 b) (i3 : I64 c) (i4 : I64 d) : Ret 179 (args2 a b c d) (divV a b c d) := by
 intro w
 unfold divV opV
 cases v1 : Num.val a b
 ·exact divP_no1 a b c d w i1 i2 i3 i4 v1
 cases v2 : Num.val c d
 ·exact divP_no2 a b c d w i1 i2 i3 i4 v1 v2
 by_cases hc : c = 0
 ·rw [if_pos (by rfl), if_pos (by simp [hc])]
  exact divP_zero a b c d w i1 i2 i3 i4 v1 v2 hc
 rw [if_pos (by rfl), if_neg (by simp [hc])]
 exact divP_ok a b c d w i1 i2 i3 i4 v1 v2 hc
theorem divR_any (a b c d : Int) (i1 : I64 a) (i2 : I64 b) (i3 : I64 c) (i4 : I64 d) : Ret 210 (args2 a b c d) (divV a b c d) := by
 intro w
 unfold divV opV
 cases v1 : Num.val a b
 ·exact divR_no1 a b c d w i1 i2 i3 i4 v1
 cases v2 : Num.val c d
 ·exact divR_no2 a b c d w i1 i2 i3 i4 v1 v2
 by_cases hc : c = 0
 ·rw [if_pos (by rfl), if_pos (by simp [hc])]
  exact divR_zero a b c d w i1 i2 i3 i4 v1 v2 hc
 rw [if_pos (by rfl), if_neg (by simp [hc])]
 exact divR_ok a b c d w i1 i2 i3 i4 v1 v2 hc
theorem modP_any (a b c d : Int) (i1 : I64 a) (i2 : I64 b) (i3 : I64 c) (i4 : I64 d) : Ret 180 (args2 a b c d) (modV a b c d) := by
 intro w
 unfold modV opV
 cases v1 : Num.val a b
 ·exact modP_no1 a b c d w i1 i2 i3 i4 v1
 cases v2 : Num.val c d
 ·exact modP_no2 a b c d w i1 i2 i3 i4 v1 v2
 by_cases hc : c = 0
 ·rw [if_pos (by rfl), if_pos (by simp [hc])]
  exact modP_zero a b c d w i1 i2 i3 i4 v1 v2 hc
 rw [if_pos (by rfl), if_neg (by simp [hc])]
 exact modP_ok a b c d w i1 i2 i3 i4 v1 v2 hc
theorem modR_any (a b c d : Int) (i1 : I64 a) (i2 : I64 b) (i3 : I64 c) (i4 : I64 d) : Ret 211 (args2 a b c d) (modV a b c d) := by
 intro w
 unfold modV opV
 cases v1 : Num.val a b
 ·exact modR_no1 a b c d w i1 i2 i3 i4 v1
 cases v2 : Num.val c d
 ·exact modR_no2 a b c d w i1 i2 i3 i4 v1 v2
 by_cases hc : c = 0
 ·rw [if_pos (by rfl), if_pos (by simp [hc])]
  exact modR_zero a b c d w i1 i2 i3 i4 v1 v2 hc
 rw [if_pos (by rfl), if_neg (by simp [hc])]
 exact modR_ok a b c d w i1 i2 i3 i4 v1 v2 hc
theorem roundP_any (a b k : Int) (i1 : I64 a) (i2 : I64 b) : Ret 120 #[.agg #[.int .i64 a, .int .i64 b], .int .i64 k] (roundV a b k) := by
 intro w
 unfold roundV
 cases v1 : Num.val a b
 ·exact roundP_no a b k w i1 i2 v1
 rw [if_pos rfl]
 by_cases hk : k < 0 ∨ 9 < k
 ·rw [if_pos hk]
  exact roundP_range a b k w i1 i2 v1 hk
 ·rw [if_neg hk]
  have := roundP_ok a b k.toNat w i1 i2 v1 (by omega)
  rw [show (k.toNat : Int) = k by omega] at this
  exact this
theorem roundR_any (a b k : Int) (i1 : I64 a) (i2 : I64 b) : Ret 155 #[.agg #[.int .i64 a, .int .i64 b], .int .i64 k] (roundV a b k) := by
 intro w
 unfold roundV
 cases v1 : Num.val a b
 ·exact roundR_no a b k w i1 i2 v1
 rw [if_pos rfl]
 by_cases hk : k < 0 ∨ 9 < k
 ·rw [if_pos hk]
  exact roundR_range a b k w i1 i2 v1 hk
 ·rw [if_neg hk]
  have := roundR_ok a b k.toNat w i1 i2 v1 (by omega)
  rw [show (k.toNat : Int) = k by omega] at this
  exact this
theorem floorP_any (a b : Int) (w : World) (i1 : I64 a) (i2 : I64 b) : Calls Tryz.prog 174 #[.agg #[.int .i64 a, .int .i64 b]] w fun e w' => e = .returned (.tuple #[.int .i64 (floorV a b).1, .int .i64 (floorV a b).2]) ∧ Below w.heap.size w w' := by
 unfold floorV
 cases v1 : Num.val a b
 ·exact floorP_no a b w i1 i2 v1
 ·exact floorP_ok a b w i1 i2 v1
theorem Known.made2 (w : World) (t : TypeId) (cs : Array Value) (o : Obj) : Known ((w.alloc o).alloc (.cells cs t)) (w.heap.size + 1) t cs := by
 have := Known.made (w.alloc o) t cs
 rw [show (w.alloc o).heap.size = w.heap.size + 1 by simp] at this
 exact this
def RetI (f : FuncId) (a b c d x : Int) : Prop := ∀ w, Calls Tryz.prog f #[.agg #[.int .i64 a, .int .i64 b], .agg #[.int .i64 c, .int .i64 d]] w fun e w' => e = .returned (.int .i64 x) ∧ Below w.heap.size w w'
theorem cmp_any (a b c d : Int) (i1 : I64 a) (i2 : I64 b) (i3 : I64 c) (i4 : I64 d) : RetI 176 a b c d (cmpN a b c d) := fun w => compareP a b c d w i1 i2 i3 i4
theorem val_i64 {a b : Int} (v : Num.val a b = true) : I64 a ∧ I64 b := by
 have := Num.val_iff.1 v
 unfold I64
 omega
end Go.Proofs.YtcklofamaooegaaGreatDoor
