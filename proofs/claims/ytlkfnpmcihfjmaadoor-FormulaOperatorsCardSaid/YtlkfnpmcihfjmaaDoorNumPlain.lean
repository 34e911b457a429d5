/-
  The laws of exact numbers, in plain mathematics: subtraction undoes addition, division multiplication, remainders, order. No program in sight. No conditions but those typed in each theorem.
-/
import Derived.Test.YtlkfnpmcihfjmaaDoorNumVals
import Derived.Test.YtlkfnpmcihfjmaaDoorNumCmp
namespace Go.Proofs.YtlkfnpmcihfjmaaDoor
open Num (val red)

/-- the numbers that the laws examine -/
def Small (a b : Int) : Prop := val a b = true ∧ -1999 ≤ a ∧ a ≤ 1999 ∧ 1 ≤ b ∧ b ≤ 1024

theorem red_cases {n d : Int} (hd : d ≠ 0) (h : (red n d).2.2 = 0) : val (red n d).1 (red n d).2.1 = true ∧ (red n d).1 * d = n * (red n d).2.1 := Num.red_ok hd h
theorem red_fine {n d : Int} (hd : d ≠ 0) (n1 : -1000000000 ≤ n) (n2 : n ≤ 1000000000) (d1 : -1000000000 ≤ d) (d2 : d ≤ 1000000000) :
    ∃ p q, red n d = (p, q, 0) ∧ val p q = true ∧ p * d = n * q := by
  have h : (red n d).2.2 = 0 := Num.red_small hd n1 n2 d1 d2
  obtain ⟨v, e⟩ := red_cases hd h
  exact ⟨(red n d).1, (red n d).2.1, by rw [← h], v, e⟩
theorem val_pos {a b : Int} (v : val a b = true) : b ≠ 0 ∧ 1 ≤ b := by have := Num.val_iff.1 v; omega

theorem mul_lim {x y k l : Int} (k0 : 0 ≤ k) (l0 : 0 ≤ l) (h1 : -k ≤ x) (h2 : x ≤ k) (h3 : -l ≤ y) (h4 : y ≤ l) : -(k * l) ≤ x * y ∧ x * y ≤ k * l := by
  have h := Int.natAbs_mul x y
  have h' : x.natAbs * y.natAbs ≤ k.natAbs * l.natAbs := Nat.mul_le_mul (by omega) (by omega)
  have h'' := Int.natAbs_mul k l
  have : 0 ≤ k * l := Int.mul_nonneg k0 l0
  omega

/-- the products of two small numbers' parts -/
theorem small_bd {a b c d : Int} (x : Small a b) (y : Small c d) :
    (-2046976 ≤ a * d ∧ a * d ≤ 2046976) ∧ (-2046976 ≤ c * b ∧ c * b ≤ 2046976) ∧ (-1048576 ≤ b * d ∧ b * d ≤ 1048576) ∧ (-3996001 ≤ a * c ∧ a * c ≤ 3996001) ∧ (-2046976 ≤ b * c ∧ b * c ≤ 2046976) := by
  obtain ⟨v, x1, x2, x3, x4⟩ := x
  obtain ⟨v', y1, y2, y3, y4⟩ := y
  refine ⟨?_, ?_, ?_, ?_, ?_⟩
  · exact mul_lim (k := 1999) (l := 1024) (by omega) (by omega) (by omega) (by omega) (by omega) (by omega)
  · exact mul_lim (k := 1999) (l := 1024) (by omega) (by omega) (by omega) (by omega) (by omega) (by omega)
  · exact mul_lim (k := 1024) (l := 1024) (by omega) (by omega) (by omega) (by omega) (by omega) (by omega)
  · exact mul_lim (k := 1999) (l := 1999) (by omega) (by omega) (by omega) (by omega) (by omega) (by omega)
  · exact mul_lim (k := 1024) (l := 1999) (by omega) (by omega) (by omega) (by omega) (by omega) (by omega)

theorem add_fine {a b c d : Int} (x : Small a b) (y : Small c d) : ∃ p q, addV a b c d = (p, q, 0) ∧ val p q = true ∧ p * (b * d) = (a * d + c * b) * q := by
  have hb := small_bd x y
  rw [addV, opV_ok x.1 y.1 (.inl rfl)]
  have h1 := (val_pos x.1).1
  have h2 := (val_pos y.1).1
  exact red_fine (Int.mul_ne_zero h1 h2) (by omega) (by omega) (by omega) (by omega)
theorem mul_fine {a b c d : Int} (x : Small a b) (y : Small c d) : ∃ p q, mulV a b c d = (p, q, 0) ∧ val p q = true ∧ p * (b * d) = (a * c) * q := by
  have hb := small_bd x y
  rw [mulV, opV_ok x.1 y.1 (.inl rfl)]
  have h1 := (val_pos x.1).1
  have h2 := (val_pos y.1).1
  exact red_fine (Int.mul_ne_zero h1 h2) (by omega) (by omega) (by omega) (by omega)

/-- subtraction undoes addition -/
theorem sub_of_add {a b c d p q : Int} (vx : val a b = true) (vy : val c d = true) (v : val p q = true) (e : p * (b * d) = (a * d + c * b) * q) : subV p q c d = (a, b, 0) := by
  rw [subV, opV_ok v vy (.inl rfl)]
  have h2 := (val_pos vy).1
  have h3 := (val_pos v).1
  exact Num.red_to (Int.mul_ne_zero h3 h2) vx (by grind)
/-- division undoes multiplication -/
theorem div_of_mul {a b c d p q : Int} (vx : val a b = true) (vy : val c d = true) (v : val p q = true) (hc : c ≠ 0) (e : p * (b * d) = (a * c) * q) : divV p q c d = (a, b, 0) := by
  rw [divV, opV_ok v vy (.inr hc)]
  have h3 := (val_pos v).1
  exact Num.red_to (Int.mul_ne_zero h3 hc) vx (by grind)
theorem div_zero {p q d : Int} (v : val p q = true) (vy : val 0 d = true) : divV p q 0 d = (0, 0, 16) := opV_zero v vy rfl
theorem mod_zero {p q d : Int} (v : val p q = true) (vy : val 0 d = true) : modV p q 0 d = (0, 0, 16) := opV_zero v vy rfl

theorem add_comm' (a b c d : Int) : addV a b c d = addV c d a b := by
  unfold addV opV
  rw [Int.add_comm (a * d), Int.mul_comm b d, Bool.and_comm]
  simp
theorem mul_comm' (a b c d : Int) : mulV a b c d = mulV c d a b := by
  unfold mulV opV
  rw [Int.mul_comm a c, Int.mul_comm b d, Bool.and_comm]
  simp
theorem op_ok {n m a b c d : Int} {r : Int × Int × Int} (hr : r = opV false n m a b c d) (v1 : val a b = true) (v2 : val c d = true) (hm : m ≠ 0) (h : r.2.2 = 0) :
    val r.1 r.2.1 = true ∧ r.1 * m = n * r.2.1 := by
  rw [opV_ok v1 v2 (.inl rfl)] at hr
  subst hr
  exact red_cases hm h
/-- products distribute -/
theorem distr {a b c d e f : Int} (x : val a b = true) (y : val c d = true) (z : val e f = true) (s : Int × Int × Int) (hs : s = addV a b c d) (h0 : s.2.2 = 0)
    (u : Int × Int × Int) (hu : u = mulV s.1 s.2.1 e f) (h1 : u.2.2 = 0) (v : Int × Int × Int) (hv : v = mulV a b e f) (h2 : v.2.2 = 0) (w : Int × Int × Int) (hw : w = mulV c d e f) (h3 : w.2.2 = 0)
    (k : Int × Int × Int) (hk : k = addV v.1 v.2.1 w.1 w.2.1) (h4 : k.2.2 = 0) : subV k.1 k.2.1 u.1 u.2.1 = (0, 1, 0) := by
  have b1 := val_pos x
  have b2 := val_pos y
  have b3 := val_pos z
  obtain ⟨vs, es⟩ := op_ok hs x y (Int.mul_ne_zero b1.1 b2.1) h0
  have b4 := val_pos vs
  obtain ⟨vu, eu⟩ := op_ok hu vs z (Int.mul_ne_zero b4.1 b3.1) h1
  obtain ⟨vv, ev⟩ := op_ok hv x z (Int.mul_ne_zero b1.1 b3.1) h2
  obtain ⟨vw, ew⟩ := op_ok hw y z (Int.mul_ne_zero b2.1 b3.1) h3
  have b5 := val_pos vv
  have b6 := val_pos vw
  obtain ⟨vk, ek⟩ := op_ok hk vv vw (Int.mul_ne_zero b5.1 b6.1) h4
  have b7 := val_pos vu
  have b8 := val_pos vk
  clear hs hu hv hw hk h0 h1 h2 h3 h4
  obtain ⟨s1, s2, s3⟩ := s
  obtain ⟨u1, u2, u3⟩ := u
  obtain ⟨v1, v2, v3⟩ := v
  obtain ⟨w1, w2, w3⟩ := w
  obtain ⟨k1, k2, k3⟩ := k
  simp only at *
  rw [subV, opV_ok vk vu (.inl rfl)]
  have key : k1 * u2 = u1 * k2 := by
    -- both have the value of (a/b + c/d) * (e/f)
    have m : (b * d * f * v2 * w2 * s2) ≠ 0 := by
      refine Int.mul_ne_zero (Int.mul_ne_zero (Int.mul_ne_zero (Int.mul_ne_zero (Int.mul_ne_zero ?_ ?_) ?_) ?_) ?_) ?_ <;> omega
    refine Int.eq_of_mul_eq_mul_left (Int.mul_ne_zero m (show b * d * f ≠ 0 from Int.mul_ne_zero (Int.mul_ne_zero b1.1 b2.1) b3.1)) ?_
    grind
  rw [show k1 * u2 - u1 * k2 = 0 by omega]
  exact Num.red_to (Int.mul_ne_zero b8.1 b7.1) (by decide) (by omega)
end Go.Proofs.YtlkfnpmcihfjmaaDoor
