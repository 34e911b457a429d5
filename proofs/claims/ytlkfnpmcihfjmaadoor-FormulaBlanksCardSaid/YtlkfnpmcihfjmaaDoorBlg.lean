/-
  Compare, by the program and by the reference. Conditions: those typed in each theorem.
  The remainder with the divisor's sign, and Floor, by the program and by the reference. Conditions: those typed in each theorem.
  Round, by the program and by the reference. Conditions: those typed in each theorem.
  The values of the operations on numbers. No program in sight. No conditions but those typed in each theorem.
  Floor, by the program and by the reference. Conditions: those typed in each theorem.
  The laws of exact numbers, in plain mathematics: subtraction undoes addition, division multiplication, remainders, order. No program in sight. No conditions but those typed in each theorem.
-/
import Derived.Test.YtlkfnpmcihfjmaaDoorBlf
import Derived.Test.YtlkfnpmcihfjmaaDoorBlc

namespace Go.Proofs.YtlkfnpmcihfjmaaDoor
open Go.RowKit

/-- how two products stand -/
def cmpV (x y : Int) : Int := if x < y then -1 else if y < x then 1 else 0
def cmpN (a b c d : Int) : Int := if Num.val a b = true ∧ Num.val c d = true then cmpV (a * d) (c * b) else 0

/-- the blocks of two numbers -/
def W22 (a b c d : Int) (w : World) : World := (w.alloc (.cells #[.int .i64 a, .int .i64 b] 23)).alloc (.cells #[.int .i64 c, .int .i64 d] 23)
theorem W22_below (a b c d : Int) (w : World) : Below w.heap.size w (W22 a b c d w) := (below_new0 w _).then_ (below_new0 _ _)
theorem W22_a (a b c d : Int) (w : World) : Known (W22 a b c d w) w.heap.size 23 #[.int .i64 a, .int .i64 b] := (Known.made w _ _).alloc _
theorem W22_b (a b c d : Int) (w : World) : Known (W22 a b c d w) (w.heap.size + 1) 23 #[.int .i64 c, .int .i64 d] := by
  have := Known.made (w.alloc (.cells #[.int .i64 a, .int .i64 b] 23)) 23 #[.int .i64 c, .int .i64 d]
  rw [show (w.alloc (.cells #[.int .i64 a, .int .i64 b] 23)).heap.size = w.heap.size + 1 by simp] at this
  exact this

set_option maxHeartbeats 2000000 in
theorem compareP (a b c d : Int) (w : World) (i1 : I64 a) (i2 : I64 b) (i3 : I64 c) (i4 : I64 d) :
    Calls Tryd.prog 65 #[.agg #[.int .i64 a, .int .i64 b], .agg #[.int .i64 c, .int .i64 d]] w fun e w' => e = .returned (.int .i64 (cmpN a b c d)) ∧ Below w.heap.size w w' := by
  cases v1 : Num.val a b
  · rw [show cmpN a b c d = 0 by simp [cmpN, v1]]
    go_enter Tryd.func65, Tryd.ntmps65
    go_wp2_with fail
    refine (valid_any a b _ i1 i2).mono ?_
    rintro e w1 ⟨rfl, hb1⟩
    rw [v1]
    change Below (W22 a b c d w).heap.size (W22 a b c d w) w1 at hb1
    have hb := (W22_below a b c d w).then_ hb1
    have KA := (W22_a a b c d w).on hb1
    have KB := (W22_b a b c d w).on hb1
    obtain ⟨a10, a11⟩ := KA.two
    obtain ⟨b10, b11⟩ := KB.two
    go_wp2
    go_ret
    exact ⟨rfl, hb⟩
  cases v2 : Num.val c d
  · rw [show cmpN a b c d = 0 by simp [cmpN, v2]]
    go_enter Tryd.func65, Tryd.ntmps65
    go_wp2_with fail
    refine (valid_any a b _ i1 i2).mono ?_
    rintro e w1 ⟨rfl, hb1⟩
    rw [v1]
    change Below (W22 a b c d w).heap.size (W22 a b c d w) w1 at hb1
    have hb := (W22_below a b c d w).then_ hb1
    have KA := (W22_a a b c d w).on hb1
    have KB := (W22_b a b c d w).on hb1
    obtain ⟨a10, a11⟩ := KA.two
    obtain ⟨b10, b11⟩ := KB.two
    go_wp2_with fail
    refine (valid_any c d _ i3 i4).mono ?_
    rintro e w2 ⟨rfl, hb2⟩
    rw [v2]
    replace hb := hb.then_ hb2
    replace KA := KA.on hb2
    replace KB := KB.on hb2
    obtain ⟨a20, a21⟩ := KA.two
    obtain ⟨b20, b21⟩ := KB.two
    go_wp2
    go_ret
    exact ⟨rfl, hb⟩
  obtain ⟨k1, k2, k3, k4, k5⟩ := Num.val_iff.1 v1
  obtain ⟨l1, l2, l3, l4, l5⟩ := Num.val_iff.1 v2
  obtain ⟨m1, m2⟩ := mul_bd k1 k2 (show -1000000000 ≤ d by omega) l4
  obtain ⟨m3, m4⟩ := mul_bd l1 l2 (show -1000000000 ≤ b by omega) k4
  rw [show cmpN a b c d = cmpV (a * d) (c * b) by simp [cmpN, v1, v2]]
  unfold cmpV
  by_cases h1 : a * d < c * b
  · rw [if_pos h1]
    go_enter Tryd.func65, Tryd.ntmps65
    go_wp2_with fail
    refine (valid_any a b _ i1 i2).mono ?_
    rintro e w1 ⟨rfl, hb1⟩
    rw [v1]
    change Below (W22 a b c d w).heap.size (W22 a b c d w) w1 at hb1
    have hb := (W22_below a b c d w).then_ hb1
    have KA := (W22_a a b c d w).on hb1
    have KB := (W22_b a b c d w).on hb1
    obtain ⟨a10, a11⟩ := KA.two
    obtain ⟨b10, b11⟩ := KB.two
    go_wp2_with fail
    refine (valid_any c d _ i3 i4).mono ?_
    rintro e w2 ⟨rfl, hb2⟩
    rw [v2]
    replace hb := hb.then_ hb2
    replace KA := KA.on hb2
    replace KB := KB.on hb2
    obtain ⟨a20, a21⟩ := KA.two
    obtain ⟨b20, b21⟩ := KB.two
    go_wp2
    go_region
    all_goals (try go_wp2)
    all_goals (go_ret; exact ⟨rfl, hb.drew⟩)
  by_cases h2 : c * b < a * d
  · rw [if_neg h1, if_pos h2]
    go_enter Tryd.func65, Tryd.ntmps65
    go_wp2_with fail
    refine (valid_any a b _ i1 i2).mono ?_
    rintro e w1 ⟨rfl, hb1⟩
    rw [v1]
    change Below (W22 a b c d w).heap.size (W22 a b c d w) w1 at hb1
    have hb := (W22_below a b c d w).then_ hb1
    have KA := (W22_a a b c d w).on hb1
    have KB := (W22_b a b c d w).on hb1
    obtain ⟨a10, a11⟩ := KA.two
    obtain ⟨b10, b11⟩ := KB.two
    go_wp2_with fail
    refine (valid_any c d _ i3 i4).mono ?_
    rintro e w2 ⟨rfl, hb2⟩
    rw [v2]
    replace hb := hb.then_ hb2
    replace KA := KA.on hb2
    replace KB := KB.on hb2
    obtain ⟨a20, a21⟩ := KA.two
    obtain ⟨b20, b21⟩ := KB.two
    go_wp2
    go_region
    all_goals (try go_wp2)
    all_goals (go_ret; exact ⟨rfl, hb.drew⟩)
  · rw [if_neg h1, if_neg h2]
    go_enter Tryd.func65, Tryd.ntmps65
    go_wp2_with fail
    refine (valid_any a b _ i1 i2).mono ?_
    rintro e w1 ⟨rfl, hb1⟩
    rw [v1]
    change Below (W22 a b c d w).heap.size (W22 a b c d w) w1 at hb1
    have hb := (W22_below a b c d w).then_ hb1
    have KA := (W22_a a b c d w).on hb1
    have KB := (W22_b a b c d w).on hb1
    obtain ⟨a10, a11⟩ := KA.two
    obtain ⟨b10, b11⟩ := KB.two
    go_wp2_with fail
    refine (valid_any c d _ i3 i4).mono ?_
    rintro e w2 ⟨rfl, hb2⟩
    rw [v2]
    replace hb := hb.then_ hb2
    replace KA := KA.on hb2
    replace KB := KB.on hb2
    obtain ⟨a20, a21⟩ := KA.two
    obtain ⟨b20, b21⟩ := KB.two
    go_wp2
    go_region
    all_goals (try go_wp2)
    all_goals (go_ret; exact ⟨rfl, hb.drew⟩)

set_option maxHeartbeats 2000000 in
theorem compareR (a b c d : Int) (w : World) (i1 : I64 a) (i2 : I64 b) (i3 : I64 c) (i4 : I64 d) :
    Calls Tryd.prog 11 #[.agg #[.int .i64 a, .int .i64 b], .agg #[.int .i64 c, .int .i64 d]] w fun e w' => e = .returned (.int .i64 (cmpN a b c d)) ∧ Below w.heap.size w w' := by
  cases v1 : Num.val a b
  · rw [show cmpN a b c d = 0 by simp [cmpN, v1]]
    go_enter Tryd.func11, Tryd.ntmps11
    go_wp2_with fail
    refine (validRef_any a b _ i1 i2).mono ?_
    rintro e w1 ⟨rfl, hb1⟩
    rw [v1]
    change Below (W22 a b c d w).heap.size (W22 a b c d w) w1 at hb1
    have hb := (W22_below a b c d w).then_ hb1
    have KA := (W22_a a b c d w).on hb1
    have KB := (W22_b a b c d w).on hb1
    obtain ⟨a10, a11⟩ := KA.two
    obtain ⟨b10, b11⟩ := KB.two
    go_wp2
    go_ret
    exact ⟨rfl, hb⟩
  cases v2 : Num.val c d
  · rw [show cmpN a b c d = 0 by simp [cmpN, v2]]
    go_enter Tryd.func11, Tryd.ntmps11
    go_wp2_with fail
    refine (validRef_any a b _ i1 i2).mono ?_
    rintro e w1 ⟨rfl, hb1⟩
    rw [v1]
    change Below (W22 a b c d w).heap.size (W22 a b c d w) w1 at hb1
    have hb := (W22_below a b c d w).then_ hb1
    have KA := (W22_a a b c d w).on hb1
    have KB := (W22_b a b c d w).on hb1
    obtain ⟨a10, a11⟩ := KA.two
    obtain ⟨b10, b11⟩ := KB.two
    go_wp2_with fail
    refine (validRef_any c d _ i3 i4).mono ?_
    rintro e w2 ⟨rfl, hb2⟩
    rw [v2]
    replace hb := hb.then_ hb2
    replace KA := KA.on hb2
    replace KB := KB.on hb2
    obtain ⟨a20, a21⟩ := KA.two
    obtain ⟨b20, b21⟩ := KB.two
    go_wp2
    go_ret
    exact ⟨rfl, hb⟩
  obtain ⟨k1, k2, k3, k4, k5⟩ := Num.val_iff.1 v1
  obtain ⟨l1, l2, l3, l4, l5⟩ := Num.val_iff.1 v2
  obtain ⟨m1, m2⟩ := mul_bd k1 k2 (show -1000000000 ≤ d by omega) l4
  obtain ⟨m3, m4⟩ := mul_bd l1 l2 (show -1000000000 ≤ b by omega) k4
  rw [show cmpN a b c d = cmpV (a * d) (c * b) by simp [cmpN, v1, v2]]
  unfold cmpV
  by_cases h1 : a * d < c * b
  · rw [if_pos h1]
    go_enter Tryd.func11, Tryd.ntmps11
    go_wp2_with fail
    refine (validRef_any a b _ i1 i2).mono ?_
    rintro e w1 ⟨rfl, hb1⟩
    rw [v1]
    change Below (W22 a b c d w).heap.size (W22 a b c d w) w1 at hb1
    have hb := (W22_below a b c d w).then_ hb1
    have KA := (W22_a a b c d w).on hb1
    have KB := (W22_b a b c d w).on hb1
    obtain ⟨a10, a11⟩ := KA.two
    obtain ⟨b10, b11⟩ := KB.two
    go_wp2_with fail
    refine (validRef_any c d _ i3 i4).mono ?_
    rintro e w2 ⟨rfl, hb2⟩
    rw [v2]
    replace hb := hb.then_ hb2
    replace KA := KA.on hb2
    replace KB := KB.on hb2
    obtain ⟨a20, a21⟩ := KA.two
    obtain ⟨b20, b21⟩ := KB.two
    go_wp2
    go_region
    all_goals (try go_wp2)
    all_goals (go_ret; exact ⟨rfl, hb.drew⟩)
  by_cases h2 : c * b < a * d
  · rw [if_neg h1, if_pos h2]
    go_enter Tryd.func11, Tryd.ntmps11
    go_wp2_with fail
    refine (validRef_any a b _ i1 i2).mono ?_
    rintro e w1 ⟨rfl, hb1⟩
    rw [v1]
    change Below (W22 a b c d w).heap.size (W22 a b c d w) w1 at hb1
    have hb := (W22_below a b c d w).then_ hb1
    have KA := (W22_a a b c d w).on hb1
    have KB := (W22_b a b c d w).on hb1
    obtain ⟨a10, a11⟩ := KA.two
    obtain ⟨b10, b11⟩ := KB.two
    go_wp2_with fail
    refine (validRef_any c d _ i3 i4).mono ?_
    rintro e w2 ⟨rfl, hb2⟩
    rw [v2]
    replace hb := hb.then_ hb2
    replace KA := KA.on hb2
    replace KB := KB.on hb2
    obtain ⟨a20, a21⟩ := KA.two
    obtain ⟨b20, b21⟩ := KB.two
    go_wp2
    go_region
    all_goals (try go_wp2)
    all_goals (go_ret; exact ⟨rfl, hb.drew⟩)
  · rw [if_neg h1, if_neg h2]
    go_enter Tryd.func11, Tryd.ntmps11
    go_wp2_with fail
    refine (validRef_any a b _ i1 i2).mono ?_
    rintro e w1 ⟨rfl, hb1⟩
    rw [v1]
    change Below (W22 a b c d w).heap.size (W22 a b c d w) w1 at hb1
    have hb := (W22_below a b c d w).then_ hb1
    have KA := (W22_a a b c d w).on hb1
    have KB := (W22_b a b c d w).on hb1
    obtain ⟨a10, a11⟩ := KA.two
    obtain ⟨b10, b11⟩ := KB.two
    go_wp2_with fail
    refine (validRef_any c d _ i3 i4).mono ?_
    rintro e w2 ⟨rfl, hb2⟩
    rw [v2]
    replace hb := hb.then_ hb2
    replace KA := KA.on hb2
    replace KB := KB.on hb2
    obtain ⟨a20, a21⟩ := KA.two
    obtain ⟨b20, b21⟩ := KB.two
    go_wp2
    go_region
    all_goals (try go_wp2)
    all_goals (go_ret; exact ⟨rfl, hb.drew⟩)

end Go.Proofs.YtlkfnpmcihfjmaaDoor

namespace Go.Proofs.YtlkfnpmcihfjmaaDoor
open Go.RowKit

/-- the remainder with the divisor's sign -/
def modR (x y : Int) : Int := if x.tmod y ≠ 0 ∧ (x.tmod y < 0 ↔ ¬ y < 0) then x.tmod y + y else x.tmod y

theorem tmod_bd (x y : Int) (hy : y ≠ 0) : max (x.tmod y) (-x.tmod y) < max y (-y) := by
  have h := Int.natAbs_tmod x y
  have h2 : x.natAbs % y.natAbs < y.natAbs := Nat.mod_lt _ (by omega)
  omega

set_option maxHeartbeats 1000000 in
theorem below_any (x y : Int) (w : World) (hy : y ≠ 0) (y1 : -2000000000000000000 ≤ y) (y2 : y ≤ 2000000000000000000) :
    Calls Tryd.prog 29 #[.int .i64 x, .int .i64 y] w fun e w' => e = .returned (.int .i64 (modR x y)) ∧ w = w' := by
  have hb := tmod_bd x y hy
  have hy' : (y == 0) = false := by simpa using hy
  have hm : modR x y = if x.tmod y ≠ 0 ∧ (x.tmod y < 0 ↔ ¬ y < 0) then x.tmod y + y else x.tmod y := rfl
  by_cases h0 : x.tmod y = 0
  · rw [if_neg (by simp [h0]), h0] at hm
    rw [hm]
    clear hm
    go_enter Tryd.func29, Tryd.ntmps29
    go_wp2
    all_goals (go_ret; exact ⟨rfl, rfl⟩)
  have h0' : (x.tmod y == 0) = false := by simpa using h0
  by_cases h1 : x.tmod y < 0
  · have h1' : decide (x.tmod y < 0) = true := by simpa using h1
    by_cases h2 : y < 0
    · have h2' : decide (y < 0) = true := by simpa using h2
      rw [if_neg (by omega)] at hm
      rw [hm]
      clear hm
      go_enter Tryd.func29, Tryd.ntmps29
      go_wp2
      all_goals (go_ret; exact ⟨rfl, rfl⟩)
    · have h2' : decide (y < 0) = false := by simpa using h2
      rw [if_pos (by omega)] at hm
      rw [hm]
      clear hm
      go_enter Tryd.func29, Tryd.ntmps29
      go_wp2
      all_goals (go_ret; exact ⟨rfl, rfl⟩)
  · have h1' : decide (x.tmod y < 0) = false := by simpa using h1
    by_cases h2 : y < 0
    · have h2' : decide (y < 0) = true := by simpa using h2
      rw [if_pos (by omega)] at hm
      rw [hm]
      clear hm
      go_enter Tryd.func29, Tryd.ntmps29
      go_wp2
      all_goals (go_ret; exact ⟨rfl, rfl⟩)
    · have h2' : decide (y < 0) = false := by simpa using h2
      rw [if_neg (by omega)] at hm
      rw [hm]
      clear hm
      go_enter Tryd.func29, Tryd.ntmps29
      go_wp2
      all_goals (go_ret; exact ⟨rfl, rfl⟩)

/-- the quotient towards minus infinity, out of the one towards zero -/
theorem floor_tdiv (a b : Int) (hb : 0 < b) : a / b = if a.tmod b < 0 then a.tdiv b - 1 else a.tdiv b := by
  have h1 := Int.mul_tdiv_add_tmod a b
  have h2 := tmod_bd a b (by omega)
  by_cases h : a.tmod b < 0
  · rw [if_pos h]
    have e : a = (a.tmod b + b) + b * (a.tdiv b - 1) := by rw [Int.mul_sub, Int.mul_one]; omega
    have z : (a.tmod b + b) / b = 0 := Int.ediv_eq_zero_of_lt (by omega) (by omega)
    have k := Int.add_mul_ediv_left (a.tmod b + b) (a.tdiv b - 1) (show b ≠ 0 by omega)
    rw [← e, z] at k
    omega
  · rw [if_neg h]
    have z : (a.tmod b) / b = 0 := Int.ediv_eq_zero_of_lt (by omega) (by omega)
    have k := Int.add_mul_ediv_left (a.tmod b) (a.tdiv b) (show b ≠ 0 by omega)
    rw [show a.tmod b + b * a.tdiv b = a by omega, z] at k
    omega
theorem modR_pos (a b : Int) (hb : 0 < b) : modR a b = a % b := by
  have h1 := Int.mul_tdiv_add_tmod a b
  have h2 := floor_tdiv a b hb
  have h3 := Int.mul_ediv_add_emod a b
  have h4 := tmod_bd a b (by omega)
  unfold modR
  by_cases h : a.tmod b < 0
  · rw [if_pos h] at h2
    rw [h2, Int.mul_sub, Int.mul_one] at h3
    rw [if_pos ⟨by omega, by omega⟩]
    omega
  · rw [if_neg h] at h2
    rw [h2] at h3
    rw [if_neg (by omega)]
    omega
end Go.Proofs.YtlkfnpmcihfjmaaDoor

namespace Go.Proofs.YtlkfnpmcihfjmaaDoor
open Go.RowKit

/-- the rounded quotient -/
def rndU (a b p : Int) : Int := (2 * max a (-a) * p + b) / (2 * b)
def rndQ (a b p : Int) : Int := if a < 0 then -rndU a b p else rndU a b p
theorem rndU_bd {a b p : Int} (h1 : -1000000000 ≤ a) (h2 : a ≤ 1000000000) (h3 : 1 ≤ b) (h4 : b ≤ 1000000000) (p1 : 1 ≤ p) (p2 : p ≤ 1000000000) :
    0 ≤ 2 * max a (-a) * p ∧ 2 * max a (-a) * p ≤ 2000000000000000000 ∧ 0 ≤ rndU a b p ∧ rndU a b p ≤ 2000000001000000000 := by
  obtain ⟨m1, m2⟩ := mul_bd (x := max a (-a)) (y := p) (by omega) (by omega) (by omega) p2
  have m3 : 0 ≤ max a (-a) * p := Int.mul_nonneg (by omega) (by omega)
  have e : 2 * max a (-a) * p = 2 * (max a (-a) * p) := Int.mul_assoc _ _ _
  have u1 : 0 ≤ rndU a b p := Int.ediv_nonneg (by omega) (by omega)
  have u2 : rndU a b p ≤ 2 * max a (-a) * p + b := Int.ediv_le_self _ (by omega)
  omega

/-- the blocks of a number and of the result -/
def W2 (a b : Int) (w : World) : World := (w.alloc (.cells #[.int .i64 a, .int .i64 b] 23)).alloc (.cells #[.int .i64 0, .int .i64 0] 23)
theorem W2_below (a b : Int) (w : World) : Below w.heap.size w (W2 a b w) := (below_new0 w _).then_ (below_new0 _ _)
theorem W2_a (a b : Int) (w : World) : Known (W2 a b w) w.heap.size 23 #[.int .i64 a, .int .i64 b] := (Known.made w _ _).alloc _
theorem W2_r (a b : Int) (w : World) : Known (W2 a b w) (w.heap.size + 1) 23 #[.int .i64 0, .int .i64 0] := by
  have := Known.made (w.alloc (.cells #[.int .i64 a, .int .i64 b] 23)) 23 #[.int .i64 0, .int .i64 0]
  rw [show (w.alloc (.cells #[.int .i64 a, .int .i64 b] 23)).heap.size = w.heap.size + 1 by simp] at this
  exact this

set_option maxHeartbeats 1000000 in
theorem roundP_no (a b k : Int) (w : World) (i1 : I64 a) (i2 : I64 b) (v1 : Num.val a b = false) :
    Calls Tryd.prog 72 #[.agg #[.int .i64 a, .int .i64 b], .int .i64 k] w fun e w' => e = .returned (.tuple #[.agg #[.int .i64 0, .int .i64 0], .int .i64 7]) ∧ Below w.heap.size w w' := by
  go_enter Tryd.func72, Tryd.ntmps72
  go_wp2_with fail
  refine (valid_any a b _ i1 i2).mono ?_
  rintro e w1 ⟨rfl, hb1⟩
  rw [v1]
  change Below (W2 a b w).heap.size (W2 a b w) w1 at hb1
  have hb := (W2_below a b w).then_ hb1
  have KA := (W2_a a b w).on hb1
  have KR := (W2_r a b w).on hb1
  have hs : w.heap.size ≤ w.heap.size + 1 := by omega
  obtain ⟨a10, a11⟩ := KA.two
  obtain ⟨r10, r11⟩ := KR.two
  have q10 := KR.free 0
  have q11 := KR.free 1
  have Kz : Known _ _ _ #[.int .i64 0, .int .i64 0] := (KR.put 0 (.int .i64 0)).put 1 (.int .i64 0)
  obtain ⟨z0, z1⟩ := Kz.two
  go_wp2
  exact bodyPost_ret (v := .tuple #[.agg #[.int .i64 0, .int .i64 0], .int .i64 7]) (by simp [results, Tryd.results72, go_sem, z0, z1]) rfl ⟨rfl, (hb.setCell (p := ⟨w.heap.size + 1, 0, none⟩) hs _).setCell (p := ⟨w.heap.size + 1, 1, none⟩) hs _⟩

set_option maxHeartbeats 1000000 in
theorem roundP_range (a b k : Int) (w : World) (i1 : I64 a) (i2 : I64 b) (v1 : Num.val a b = true) (hk : k < 0 ∨ 9 < k) :
    Calls Tryd.prog 72 #[.agg #[.int .i64 a, .int .i64 b], .int .i64 k] w fun e w' => e = .returned (.tuple #[.agg #[.int .i64 0, .int .i64 0], .int .i64 2]) ∧ Below w.heap.size w w' := by
  rcases hk with hk | hk
  · go_enter Tryd.func72, Tryd.ntmps72
    go_wp2_with fail
    refine (valid_any a b _ i1 i2).mono ?_
    rintro e w1 ⟨rfl, hb1⟩
    rw [v1]
    change Below (W2 a b w).heap.size (W2 a b w) w1 at hb1
    have hb := (W2_below a b w).then_ hb1
    have KA := (W2_a a b w).on hb1
    have KR := (W2_r a b w).on hb1
    have hs : w.heap.size ≤ w.heap.size + 1 := by omega
    obtain ⟨a10, a11⟩ := KA.two
    obtain ⟨r10, r11⟩ := KR.two
    have q10 := KR.free 0
    have q11 := KR.free 1
    have Kz : Known _ _ _ #[.int .i64 0, .int .i64 0] := (KR.put 0 (.int .i64 0)).put 1 (.int .i64 0)
    obtain ⟨z0, z1⟩ := Kz.two
    go_wp2
    exact bodyPost_ret (v := .tuple #[.agg #[.int .i64 0, .int .i64 0], .int .i64 2]) (by simp [results, Tryd.results72, go_sem, z0, z1]) rfl ⟨rfl, (hb.setCell (p := ⟨w.heap.size + 1, 0, none⟩) hs _).setCell (p := ⟨w.heap.size + 1, 1, none⟩) hs _⟩
  · go_enter Tryd.func72, Tryd.ntmps72
    go_wp2_with fail
    refine (valid_any a b _ i1 i2).mono ?_
    rintro e w1 ⟨rfl, hb1⟩
    rw [v1]
    change Below (W2 a b w).heap.size (W2 a b w) w1 at hb1
    have hb := (W2_below a b w).then_ hb1
    have KA := (W2_a a b w).on hb1
    have KR := (W2_r a b w).on hb1
    have hs : w.heap.size ≤ w.heap.size + 1 := by omega
    obtain ⟨a10, a11⟩ := KA.two
    obtain ⟨r10, r11⟩ := KR.two
    have q10 := KR.free 0
    have q11 := KR.free 1
    have Kz : Known _ _ _ #[.int .i64 0, .int .i64 0] := (KR.put 0 (.int .i64 0)).put 1 (.int .i64 0)
    obtain ⟨z0, z1⟩ := Kz.two
    go_wp2
    exact bodyPost_ret (v := .tuple #[.agg #[.int .i64 0, .int .i64 0], .int .i64 2]) (by simp [results, Tryd.results72, go_sem, z0, z1]) rfl ⟨rfl, (hb.setCell (p := ⟨w.heap.size + 1, 0, none⟩) hs _).setCell (p := ⟨w.heap.size + 1, 1, none⟩) hs _⟩

set_option maxHeartbeats 2000000 in
theorem roundP_ok (a b : Int) (k : Nat) (w : World) (i1 : I64 a) (i2 : I64 b) (v1 : Num.val a b = true) (hk : k ≤ 9) :
    Calls Tryd.prog 72 #[.agg #[.int .i64 a, .int .i64 b], .int .i64 k] w fun e w' => e = .returned (.tuple #[.agg #[.int .i64 (Num.redN (rndQ a b (10 ^ k)) (10 ^ k)), .int .i64 (Num.redD (rndQ a b (10 ^ k)) (10 ^ k))], .int .i64 (Num.redE (rndQ a b (10 ^ k)) (10 ^ k))]) ∧ Below w.heap.size w w' := by
  obtain ⟨k1, k2, k3, k4, k5⟩ := Num.val_iff.1 v1
  obtain ⟨p1, p2⟩ := pow_bd k hk
  have hp : ∀ w, Calls Tryd.prog 60 #[.int .i64 k] w fun e w' => e = .returned (.int .i64 (10 ^ k)) ∧ w = w' := fun w => power_any k w hk
  generalize (10 : Int) ^ k = p at *
  obtain ⟨u1, u2, u3, u4⟩ := rndU_bd k1 k2 k3 k4 p1 p2
  have hu : (2 * max a (-a) * p + b) / (2 * b) = rndU a b p := rfl
  have hq : rndQ a b p = if a < 0 then -rndU a b p else rndU a b p := rfl
  by_cases ha : a < 0
  · rw [if_pos ha] at hq
    rw [hq]
    go_enter Tryd.func72, Tryd.ntmps72
    go_wp2_with fail
    refine (valid_any a b _ i1 i2).mono ?_
    rintro e w1 ⟨rfl, hb1⟩
    rw [v1]
    change Below (W2 a b w).heap.size (W2 a b w) w1 at hb1
    have hb := (W2_below a b w).then_ hb1
    have KA := (W2_a a b w).on hb1
    have KR := (W2_r a b w).on hb1
    have hs : w.heap.size ≤ w.heap.size + 1 := by omega
    obtain ⟨a10, a11⟩ := KA.two
    obtain ⟨r10, r11⟩ := KR.two
    have q10 := KR.free 0
    have q11 := KR.free 1
    go_wp2_with fail
    refine (hp _).mono ?_
    rintro e w2 ⟨rfl, rfl⟩
    go_wp2_with fail
    have hlt := KA.lt
    have hz : (2 * b == 0) = false := by simp; omega
    refine wp_region_gr (by kernel_rfl) (by kernel_rfl) ?_
    repeat (go_big_quiet_step ((go_at_call 82; exact gr_same (size_any _ _ (by omega) (by omega)))))
    refine wpQuiet_nil ?_
    intro _ hw'; obtain ⟨w5, hw''⟩ := hw'; subst hw''
    have hB := gr_below w1 w5
    generalize gr w1 w5 = w4 at *
    replace hb := hb.then_ hB
    replace KA := KA.on hB
    replace KR := KR.on hB
    obtain ⟨a40, a41⟩ := KA.two
    obtain ⟨r40, r41⟩ := KR.two
    have q40 := KR.free 0
    have q41 := KR.free 1
    go_wp2_with fail
    refine (reduce_any (-rndU a b p) p _ (by omega) (by omega) (by omega) (by omega) (by omega)).mono ?_
    rintro e w3 ⟨rfl, hb3⟩
    replace hb := hb.then_ hb3
    replace KR := KR.on hb3
    obtain ⟨r30, r31⟩ := KR.two
    have q30 := KR.free 0
    have q31 := KR.free 1
    have Kz : Known _ _ _ #[.int .i64 (Num.redN (-rndU a b p) p), .int .i64 (Num.redD (-rndU a b p) p)] := (KR.put 0 (.int .i64 (Num.redN (-rndU a b p) p))).put 1 (.int .i64 (Num.redD (-rndU a b p) p))
    obtain ⟨z0, z1⟩ := Kz.two
    go_wp2
    exact bodyPost_ret (v := .tuple #[.agg #[.int .i64 (Num.redN (-rndU a b p) p), .int .i64 (Num.redD (-rndU a b p) p)], .int .i64 (Num.redE (-rndU a b p) p)]) (by simp [results, Tryd.results72, go_sem, z0, z1]) rfl ⟨rfl, (hb.setCell (p := ⟨w.heap.size + 1, 0, none⟩) hs _).setCell (p := ⟨w.heap.size + 1, 1, none⟩) hs _⟩
  · rw [if_neg ha] at hq
    rw [hq]
    go_enter Tryd.func72, Tryd.ntmps72
    go_wp2_with fail
    refine (valid_any a b _ i1 i2).mono ?_
    rintro e w1 ⟨rfl, hb1⟩
    rw [v1]
    change Below (W2 a b w).heap.size (W2 a b w) w1 at hb1
    have hb := (W2_below a b w).then_ hb1
    have KA := (W2_a a b w).on hb1
    have KR := (W2_r a b w).on hb1
    have hs : w.heap.size ≤ w.heap.size + 1 := by omega
    obtain ⟨a10, a11⟩ := KA.two
    obtain ⟨r10, r11⟩ := KR.two
    have q10 := KR.free 0
    have q11 := KR.free 1
    go_wp2_with fail
    refine (hp _).mono ?_
    rintro e w2 ⟨rfl, rfl⟩
    go_wp2_with fail
    have hlt := KA.lt
    have hz : (2 * b == 0) = false := by simp; omega
    refine wp_region_gr (by kernel_rfl) (by kernel_rfl) ?_
    repeat (go_big_quiet_step ((go_at_call 82; exact gr_same (size_any _ _ (by omega) (by omega)))))
    refine wpQuiet_nil ?_
    intro _ hw'; obtain ⟨w5, hw''⟩ := hw'; subst hw''
    have hB := gr_below w1 w5
    generalize gr w1 w5 = w4 at *
    replace hb := hb.then_ hB
    replace KA := KA.on hB
    replace KR := KR.on hB
    obtain ⟨a40, a41⟩ := KA.two
    obtain ⟨r40, r41⟩ := KR.two
    have q40 := KR.free 0
    have q41 := KR.free 1
    go_wp2_with fail
    refine (reduce_any (rndU a b p) p _ (by omega) (by omega) (by omega) (by omega) (by omega)).mono ?_
    rintro e w3 ⟨rfl, hb3⟩
    replace hb := hb.then_ hb3
    replace KR := KR.on hb3
    obtain ⟨r30, r31⟩ := KR.two
    have q30 := KR.free 0
    have q31 := KR.free 1
    have Kz : Known _ _ _ #[.int .i64 (Num.redN (rndU a b p) p), .int .i64 (Num.redD (rndU a b p) p)] := (KR.put 0 (.int .i64 (Num.redN (rndU a b p) p))).put 1 (.int .i64 (Num.redD (rndU a b p) p))
    obtain ⟨z0, z1⟩ := Kz.two
    go_wp2
    exact bodyPost_ret (v := .tuple #[.agg #[.int .i64 (Num.redN (rndU a b p) p), .int .i64 (Num.redD (rndU a b p) p)], .int .i64 (Num.redE (rndU a b p) p)]) (by simp [results, Tryd.results72, go_sem, z0, z1]) rfl ⟨rfl, (hb.setCell (p := ⟨w.heap.size + 1, 0, none⟩) hs _).setCell (p := ⟨w.heap.size + 1, 1, none⟩) hs _⟩

end Go.Proofs.YtlkfnpmcihfjmaaDoor

namespace Go.Proofs.YtlkfnpmcihfjmaaDoor
def opV (z : Bool) (n m a b c d : Int) : Int × Int × Int := if (Num.val a b && Num.val c d) = true then (if (z && c == 0) = true then (0, 0, 16) else Num.red n m) else (0, 0, 7)
theorem opV_ok {z : Bool} {n m a b c d : Int} (v1 : Num.val a b = true) (v2 : Num.val c d = true) (h : z = false ∨ c ≠ 0) : opV z n m a b c d = Num.red n m := by
  unfold opV
  rw [v1, v2, if_pos (by rfl), if_neg]
  rcases h with rfl | h
  · simp
  · simp [h]
theorem opV_zero {n m a b c d : Int} (v1 : Num.val a b = true) (v2 : Num.val c d = true) (h : c = 0) : opV true n m a b c d = (0, 0, 16) := by
  unfold opV
  rw [v1, v2, if_pos (by rfl), if_pos (by simp [h])]
/-- the value of Add -/
def addV (a b c d : Int) : Int × Int × Int := opV false (a * d + c * b) (b * d) a b c d
/-- the value of Sub -/
def subV (a b c d : Int) : Int × Int × Int := opV false (a * d - c * b) (b * d) a b c d
/-- the value of Mul -/
def mulV (a b c d : Int) : Int × Int × Int := opV false (a * c) (b * d) a b c d
/-- the value of Div -/
def divV (a b c d : Int) : Int × Int × Int := opV true (a * d) (b * c) a b c d
/-- the value of Mod -/
def modV (a b c d : Int) : Int × Int × Int := opV true (modR (a * d) (c * b)) (b * d) a b c d
/-- the value of Round -/
def roundV (a b k : Int) : Int × Int × Int := if Num.val a b = true then (if k < 0 ∨ 9 < k then (0, 0, 2) else Num.red (rndQ a b (10 ^ k.toNat)) (10 ^ k.toNat)) else (0, 0, 7)
/-- the value of Floor -/
def floorV (a b : Int) : Int × Int := if Num.val a b = true then (a / b, 0) else (0, 7)
end Go.Proofs.YtlkfnpmcihfjmaaDoor

namespace Go.Proofs.YtlkfnpmcihfjmaaDoor
open Go.RowKit

set_option maxHeartbeats 1000000 in
theorem floorP_no (a b : Int) (w : World) (i1 : I64 a) (i2 : I64 b) (v1 : Num.val a b = false) :
    Calls Tryd.prog 63 #[.agg #[.int .i64 a, .int .i64 b]] w fun e w' => e = .returned (.tuple #[.int .i64 0, .int .i64 7]) ∧ Below w.heap.size w w' := by
  go_enter Tryd.func63, Tryd.ntmps63
  go_wp2_with fail
  refine (valid_any a b _ i1 i2).mono ?_
  rintro e w1 ⟨rfl, hb1⟩
  rw [v1]
  have hb := (below_new0 w _).then_ hb1
  obtain ⟨f0, f1⟩ := ((Known.made w 23 #[.int .i64 a, .int .i64 b]).on hb1).two
  go_wp2
  go_ret2
  exact ⟨rfl, hb⟩

set_option maxHeartbeats 1000000 in
theorem floorP_ok (a b : Int) (w : World) (i1 : I64 a) (i2 : I64 b) (v1 : Num.val a b = true) :
    Calls Tryd.prog 63 #[.agg #[.int .i64 a, .int .i64 b]] w fun e w' => e = .returned (.tuple #[.int .i64 (a / b), .int .i64 0]) ∧ Below w.heap.size w w' := by
  obtain ⟨k1, k2, k3, k4, k5⟩ := Num.val_iff.1 v1
  have hf := floor_tdiv a b (by omega)
  have hm := Int.mul_tdiv_add_tmod a b
  have ht := tmod_bd a b (by omega)
  have hz : (b == 0) = false := by simp; omega
  have hd : -1000000000 ≤ a.tdiv b ∧ a.tdiv b ≤ 1000000000 := by
    have h1 := Int.natAbs_tdiv a b
    have h2 : a.natAbs.div b.natAbs ≤ a.natAbs := Nat.div_le_self _ _
    rw [← h1] at h2
    omega
  clear hm
  by_cases h : a.tmod b < 0
  · have h' : decide (a.tmod b < 0) = true := by simpa using h
    rw [if_pos h] at hf
    rw [hf]
    clear hf
    go_enter Tryd.func63, Tryd.ntmps63
    go_wp2_with fail
    refine (valid_any a b _ i1 i2).mono ?_
    rintro e w1 ⟨rfl, hb1⟩
    rw [v1]
    have hb := (below_new0 w _).then_ hb1
    obtain ⟨f0, f1⟩ := ((Known.made w 23 #[.int .i64 a, .int .i64 b]).on hb1).two
    go_wp2
    go_ret2
    exact ⟨rfl, hb⟩
  · have h' : decide (a.tmod b < 0) = false := by simpa using h
    rw [if_neg h] at hf
    rw [hf]
    clear hf
    go_enter Tryd.func63, Tryd.ntmps63
    go_wp2_with fail
    refine (valid_any a b _ i1 i2).mono ?_
    rintro e w1 ⟨rfl, hb1⟩
    rw [v1]
    have hb := (below_new0 w _).then_ hb1
    obtain ⟨f0, f1⟩ := ((Known.made w 23 #[.int .i64 a, .int .i64 b]).on hb1).two
    go_wp2
    go_ret2
    exact ⟨rfl, hb⟩

end Go.Proofs.YtlkfnpmcihfjmaaDoor

namespace Go.Proofs.YtlkfnpmcihfjmaaDoor
open Num (val red)

/-- the numbers that the laws examine -/
def Small (a b : Int) : Prop := val a b = true ∧ -1999 ≤ a ∧ a ≤ 1999 ∧ 1 ≤ b ∧ b ≤ 1024

theorem red_cases {n d : Int} (hd : d ≠ 0) (h : (red n d).2.2 = 0) : val (red n d).1 (red n d).2.1 = true ∧ (red n d).1 * d = n * (red n d).2.1 := Num.red_ok hd h
theorem red_fine {n d : Int} (hd : d ≠ 0) (n1 : -1000000000 ≤ n) (n2 : n ≤ 1000000000) (d1 : -1000000000 ≤ d) (d2 : d ≤ 1000000000) :
    ∃ p q, red n d = (p, q, 0) ∧ val p q = true ∧ p * d = n * q := by
  have h : (red n d).2.2 = 0 := Num.red_small hd n1 n2 d1 d2
  obtain ⟨v, e⟩ := red_cases hd h
  exact ⟨(red n d).1, (red n d).2.1, by rw [← h], v, e⟩
theorem val_pos {a b : Int} (v : val a b = true) : b ≠ 0 ∧ 1 ≤ b := by have := Num.val_iff.1 v; omega

theorem mul_lim {x y k l : Int} (k0 : 0 ≤ k) (l0 : 0 ≤ l) (h1 : -k ≤ x) (h2 : x ≤ k) (h3 : -l ≤ y) (h4 : y ≤ l) : -(k * l) ≤ x * y ∧ x * y ≤ k * l := by
  have h := Int.natAbs_mul x y
  have h' : x.natAbs * y.natAbs ≤ k.natAbs * l.natAbs := Nat.mul_le_mul (by omega) (by omega)
  have h'' := Int.natAbs_mul k l
  have : 0 ≤ k * l := Int.mul_nonneg k0 l0
  omega

/-- the products of two small numbers' parts -/
theorem small_bd {a b c d : Int} (x : Small a b) (y : Small c d) :
    (-2046976 ≤ a * d ∧ a * d ≤ 2046976) ∧ (-2046976 ≤ c * b ∧ c * b ≤ 2046976) ∧ (-1048576 ≤ b * d ∧ b * d ≤ 1048576) ∧ (-3996001 ≤ a * c ∧ a * c ≤ 3996001) ∧ (-2046976 ≤ b * c ∧ b * c ≤ 2046976) := by
  obtain ⟨v, x1, x2, x3, x4⟩ := x
  obtain ⟨v', y1, y2, y3, y4⟩ := y
  refine ⟨?_, ?_, ?_, ?_, ?_⟩
  · exact mul_lim (k := 1999) (l := 1024) (by omega) (by omega) (by omega) (by omega) (by omega) (by omega)
  · exact mul_lim (k := 1999) (l := 1024) (by omega) (by omega) (by omega) (by omega) (by omega) (by omega)
  · exact mul_lim (k := 1024) (l := 1024) (by omega) (by omega) (by omega) (by omega) (by omega) (by omega)
  · exact mul_lim (k := 1999) (l := 1999) (by omega) (by omega) (by omega) (by omega) (by omega) (by omega)
  · exact mul_lim (k := 1024) (l := 1999) (by omega) (by omega) (by omega) (by omega) (by omega) (by omega)

theorem add_fine {a b c d : Int} (x : Small a b) (y : Small c d) : ∃ p q, addV a b c d = (p, q, 0) ∧ val p q = true ∧ p * (b * d) = (a * d + c * b) * q := by
  have hb := small_bd x y
  rw [addV, opV_ok x.1 y.1 (.inl rfl)]
  have h1 := (val_pos x.1).1
  have h2 := (val_pos y.1).1
  exact red_fine (Int.mul_ne_zero h1 h2) (by omega) (by omega) (by omega) (by omega)
theorem mul_fine {a b c d : Int} (x : Small a b) (y : Small c d) : ∃ p q, mulV a b c d = (p, q, 0) ∧ val p q = true ∧ p * (b * d) = (a * c) * q := by
  have hb := small_bd x y
  rw [mulV, opV_ok x.1 y.1 (.inl rfl)]
  have h1 := (val_pos x.1).1
  have h2 := (val_pos y.1).1
  exact red_fine (Int.mul_ne_zero h1 h2) (by omega) (by omega) (by omega) (by omega)

/-- subtraction undoes addition -/
theorem sub_of_add {a b c d p q : Int} (vx : val a b = true) (vy : val c d = true) (v : val p q = true) (e : p * (b * d) = (a * d + c * b) * q) : subV p q c d = (a, b, 0) := by
  rw [subV, opV_ok v vy (.inl rfl)]
  have h2 := (val_pos vy).1
  have h3 := (val_pos v).1
  exact Num.red_to (Int.mul_ne_zero h3 h2) vx (by grind)
/-- division undoes multiplication -/
theorem div_of_mul {a b c d p q : Int} (vx : val a b = true) (vy : val c d = true) (v : val p q = true) (hc : c ≠ 0) (e : p * (b * d) = (a * c) * q) : divV p q c d = (a, b, 0) := by
  rw [divV, opV_ok v vy (.inr hc)]
  have h3 := (val_pos v).1
  exact Num.red_to (Int.mul_ne_zero h3 hc) vx (by grind)
theorem div_zero {p q d : Int} (v : val p q = true) (vy : val 0 d = true) : divV p q 0 d = (0, 0, 16) := opV_zero v vy rfl
theorem mod_zero {p q d : Int} (v : val p q = true) (vy : val 0 d = true) : modV p q 0 d = (0, 0, 16) := opV_zero v vy rfl

theorem add_comm' (a b c d : Int) : addV a b c d = addV c d a b := by
  unfold addV opV
  rw [Int.add_comm (a * d), Int.mul_comm b d, Bool.and_comm]
  simp
theorem mul_comm' (a b c d : Int) : mulV a b c d = mulV c d a b := by
  unfold mulV opV
  rw [Int.mul_comm a c, Int.mul_comm b d, Bool.and_comm]
  simp
theorem op_ok {n m a b c d : Int} {r : Int × Int × Int} (hr : r = opV false n m a b c d) (v1 : val a b = true) (v2 : val c d = true) (hm : m ≠ 0) (h : r.2.2 = 0) :
    val r.1 r.2.1 = true ∧ r.1 * m = n * r.2.1 := by
  rw [opV_ok v1 v2 (.inl rfl)] at hr
  subst hr
  exact red_cases hm h
/-- products distribute -/
theorem distr {a b c d e f : Int} (x : val a b = true) (y : val c d = true) (z : val e f = true) (s : Int × Int × Int) (hs : s = addV a b c d) (h0 : s.2.2 = 0)
    (u : Int × Int × Int) (hu : u = mulV s.1 s.2.1 e f) (h1 : u.2.2 = 0) (v : Int × Int × Int) (hv : v = mulV a b e f) (h2 : v.2.2 = 0) (w : Int × Int × Int) (hw : w = mulV c d e f) (h3 : w.2.2 = 0)
    (k : Int × Int × Int) (hk : k = addV v.1 v.2.1 w.1 w.2.1) (h4 : k.2.2 = 0) : subV k.1 k.2.1 u.1 u.2.1 = (0, 1, 0) := by
  have b1 := val_pos x
  have b2 := val_pos y
  have b3 := val_pos z
  obtain ⟨vs, es⟩ := op_ok hs x y (Int.mul_ne_zero b1.1 b2.1) h0
  have b4 := val_pos vs
  obtain ⟨vu, eu⟩ := op_ok hu vs z (Int.mul_ne_zero b4.1 b3.1) h1
  obtain ⟨vv, ev⟩ := op_ok hv x z (Int.mul_ne_zero b1.1 b3.1) h2
  obtain ⟨vw, ew⟩ := op_ok hw y z (Int.mul_ne_zero b2.1 b3.1) h3
  have b5 := val_pos vv
  have b6 := val_pos vw
  obtain ⟨vk, ek⟩ := op_ok hk vv vw (Int.mul_ne_zero b5.1 b6.1) h4
  have b7 := val_pos vu
  have b8 := val_pos vk
  clear hs hu hv hw hk h0 h1 h2 h3 h4
  obtain ⟨s1, s2, s3⟩ := s
  obtain ⟨u1, u2, u3⟩ := u
  obtain ⟨v1, v2, v3⟩ := v
  obtain ⟨w1, w2, w3⟩ := w
  obtain ⟨k1, k2, k3⟩ := k
  simp only at *
  rw [subV, opV_ok vk vu (.inl rfl)]
  have key : k1 * u2 = u1 * k2 := by
    -- both have the value of (a/b + c/d) * (e/f)
    have m : (b * d * f * v2 * w2 * s2) ≠ 0 := by
      refine Int.mul_ne_zero (Int.mul_ne_zero (Int.mul_ne_zero (Int.mul_ne_zero (Int.mul_ne_zero ?_ ?_) ?_) ?_) ?_) ?_ <;> omega
    refine Int.eq_of_mul_eq_mul_left (Int.mul_ne_zero m (show b * d * f ≠ 0 from Int.mul_ne_zero (Int.mul_ne_zero b1.1 b2.1) b3.1)) ?_
    grind
  rw [show k1 * u2 - u1 * k2 = 0 by omega]
  exact Num.red_to (Int.mul_ne_zero b8.1 b7.1) (by decide) (by omega)
end Go.Proofs.YtlkfnpmcihfjmaaDoor
