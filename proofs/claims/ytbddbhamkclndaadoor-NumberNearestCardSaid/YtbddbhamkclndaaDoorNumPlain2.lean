/-
  The laws of exact numbers, in plain mathematics: remainders, rounded numbers, the order. No program in sight. No conditions but those typed in each theorem.
-/
import Derived.Test.YtbddbhamkclndaaDoorNumPlain
import Derived.Test.YtbddbhamkclndaaDoorNumMod
namespace Go.Proofs.YtbddbhamkclndaaDoor
open Num (val red)

theorem modR_spec (x y : Int) (hy : y ≠ 0) : (∃ k, x = y * k + modR x y) ∧ (0 < y → 0 ≤ modR x y ∧ modR x y < y) ∧ (y < 0 → y < modR x y ∧ modR x y ≤ 0) := by
  have h1 := Int.mul_tdiv_add_tmod x y
  have h2 := tmod_bd x y hy
  unfold modR
  split
  · refine ⟨⟨x.tdiv y - 1, ?_⟩, ?_, ?_⟩
    · rw [Int.mul_sub]; omega
    · omega
    · omega
  · refine ⟨⟨x.tdiv y, by omega⟩, ?_, ?_⟩
    · omega
    · omega

theorem cmp_val {a b c d : Int} (v1 : val a b = true) (v2 : val c d = true) : cmpN a b c d = cmpV (a * d) (c * b) := by simp [cmpN, v1, v2]

theorem mod_law {a b c d : Int} (x : Small a b) (y : Small c d) (hc : c ≠ 0) :
    ∃ p q s t k, modV a b c d = (p, q, 0) ∧ subV a b p q = (s, t, 0) ∧ divV s t c d = (k, 1, 0) ∧ val p q = true ∧ val s t = true ∧
      (0 < c → 0 ≤ cmpN p q 0 1 ∧ cmpN p q c d < 0) ∧ (¬ 0 < c → cmpN p q 0 1 ≤ 0 ∧ 0 < cmpN p q c d) := by
  have hb := small_bd x y
  have b1 := val_pos x.1
  have b2 := val_pos y.1
  have hcb : c * b ≠ 0 := Int.mul_ne_zero hc b1.1
  have hbd := modR_bd (a * d) (c * b) hcb
  obtain ⟨⟨k, hk⟩, hp, hn⟩ := modR_spec (a * d) (c * b) hcb
  rw [modV, opV_ok x.1 y.1 (.inr hc)]
  generalize hM : modR (a * d) (c * b) = M at *
  have n1 : b * d ≠ 0 := Int.mul_ne_zero b1.1 b2.1
  obtain ⟨p, q, e1, v1, c1⟩ := red_fine (n := M) n1 (by omega) (by omega) (by omega) (by omega)
  have b3 := val_pos v1
  -- c * k is small
  have ck : -4093952 ≤ c * k ∧ c * k ≤ 4093952 := by
    have h1 : c * b * k = b * (c * k) := by ac_rfl
    have h2 : (c * k).natAbs ≤ (b * (c * k)).natAbs := by
      rw [Int.natAbs_mul b]
      exact Nat.le_mul_of_pos_left _ (by omega)
    omega
  obtain ⟨s, t, e2, v2, c2⟩ := red_fine (n := c * k) b2.1 (by omega) (by omega) (by have := y.2; omega) (by have := y.2; omega)
  have b4 := val_pos v2
  have kb : -4093952 ≤ k ∧ k ≤ 4093952 := by
    have h2 : k.natAbs ≤ (c * k).natAbs := by
      rw [Int.natAbs_mul]
      exact Nat.le_mul_of_pos_left _ (by omega)
    omega
  have sgn : p * (b * d) = M * q := c1
  refine ⟨p, q, s, t, k, e1, ?_, ?_, v1, v2, ?_, ?_⟩
  · rw [subV, opV_ok x.1 v1 (.inl rfl), ← e2]
    exact Num.red_eq (Int.mul_ne_zero b1.1 b3.1) b2.1 (by grind)
  · rw [divV, opV_ok v2 y.1 (.inr hc)]
    refine Num.red_to (Int.mul_ne_zero b4.1 hc) (Num.val_iff.2 ⟨by omega, by omega, by omega, by omega, by simp⟩) (by grind)
  · intro h
    have h1 := hp (Int.mul_pos h (by omega))
    rw [cmp_val v1 (by decide), cmp_val v1 y.1, Int.mul_one, Int.zero_mul]
    have p0 : 0 ≤ p := by
      have : 0 ≤ M * q := Int.mul_nonneg h1.1 (by omega)
      have h5 : 0 < b * d := Int.mul_pos (show 0 < b by omega) (show 0 < d by omega)
      rcases Int.lt_or_le p 0 with h6 | h6
      · have := Int.mul_neg_of_neg_of_pos h6 h5
        omega
      · exact h6
    have p1 : p * d < c * q := by
      have h4 : M * q < c * b * q := Int.mul_lt_mul_of_pos_right h1.2 (by omega)
      refine Int.lt_of_mul_lt_mul_right (a := b) ?_ (by omega)
      have e3 : p * d * b = p * (b * d) := by ac_rfl
      have e4 : c * q * b = c * b * q := by ac_rfl
      omega
    unfold cmpV
    constructor
    · split
      · omega
      · split <;> omega
    · rw [if_pos p1]; omega
  · intro h
    have h1 := hn (Int.mul_neg_of_neg_of_pos (by omega) (by omega))
    rw [cmp_val v1 (by decide), cmp_val v1 y.1, Int.mul_one, Int.zero_mul]
    have p0 : p ≤ 0 := by
      have : M * q ≤ 0 := Int.mul_nonpos_of_nonpos_of_nonneg h1.2 (by omega)
      have h5 : 0 < b * d := Int.mul_pos (show 0 < b by omega) (show 0 < d by omega)
      rcases Int.lt_or_le 0 p with h6 | h6
      · have h7 : 0 < p * (b * d) := Int.mul_pos h6 h5
        rw [sgn] at h7
        omega
      · exact h6
    have p1 : c * q < p * d := by
      have h4 : c * b * q < M * q := Int.mul_lt_mul_of_pos_right h1.1 (by omega)
      refine Int.lt_of_mul_lt_mul_right (a := b) ?_ (by omega)
      have e3 : p * d * b = p * (b * d) := by ac_rfl
      have e4 : c * q * b = c * b * q := by ac_rfl
      omega
    unfold cmpV
    constructor
    · split
      · omega
      · split <;> omega
    · rw [if_neg (by omega), if_pos p1]; omega

/-- the rounded quotient is at most a half away -/
theorem rndQ_half (a b p : Int) (hb : 1 ≤ b) (_hp : 1 ≤ p) : -b ≤ 2 * (a * p) - 2 * (rndQ a b p * b) ∧ 2 * (a * p) - 2 * (rndQ a b p * b) ≤ b := by
  have h1 := Int.mul_ediv_add_emod (2 * max a (-a) * p + b) (2 * b)
  have h2 := Int.emod_nonneg (2 * max a (-a) * p + b) (show 2 * b ≠ 0 by omega)
  have h3 := Int.emod_lt_of_pos (2 * max a (-a) * p + b) (show 0 < 2 * b by omega)
  have h4 : 2 * b * rndU a b p + (2 * max a (-a) * p + b) % (2 * b) = 2 * max a (-a) * p + b := h1
  generalize (2 * max a (-a) * p + b) % (2 * b) = r at *
  unfold rndQ
  generalize rndU a b p = u at *
  have e1 : 2 * b * u = 2 * (u * b) := by rw [Int.mul_assoc, Int.mul_comm b]
  by_cases h : a < 0
  · rw [if_pos h]
    rw [show max a (-a) = -a by omega] at h4
    have e2 : 2 * -a * p = -(2 * (a * p)) := by grind
    have e3 : -u * b = -(u * b) := by grind
    omega
  · rw [if_neg h]
    rw [show max a (-a) = a by omega] at h4
    have e2 : 2 * a * p = 2 * (a * p) := by grind
    omega

theorem near_law {a b k : Int} (x : Small a b) (k0 : 0 ≤ k) (k3 : k ≤ 3) :
    ∃ r1 r2 u, roundV a b k = (r1, r2, 0) ∧ val r1 r2 = true ∧ mulV r1 r2 (10 ^ k.toNat) 1 = (u, 1, 0) ∧
      val (10 ^ k.toNat) 1 = true ∧ val 1 (2 * 10 ^ k.toNat) = true ∧ subV 0 1 1 (2 * 10 ^ k.toNat) = (-1, 2 * 10 ^ k.toNat, 0) ∧
      ((subV a b r1 r2).2.2 = 0 → val (subV a b r1 r2).1 (subV a b r1 r2).2.1 = true ∧ cmpN (subV a b r1 r2).1 (subV a b r1 r2).2.1 1 (2 * 10 ^ k.toNat) ≤ 0 ∧ 0 ≤ cmpN (subV a b r1 r2).1 (subV a b r1 r2).2.1 (-1) (2 * 10 ^ k.toNat)) := by
  have b1 := val_pos x.1
  obtain ⟨v0, x1, x2, x3, x4⟩ := x
  have hP : 1 ≤ (10 : Int) ^ k.toNat ∧ (10 : Int) ^ k.toNat ≤ 1000 := by
    have h : k.toNat = 0 ∨ k.toNat = 1 ∨ k.toNat = 2 ∨ k.toNat = 3 := by omega
    rcases h with h | h | h | h <;> rw [h] <;> decide
  have hr : roundV a b k = red (rndQ a b (10 ^ k.toNat)) (10 ^ k.toNat) := by
    unfold roundV
    rw [v0, if_pos rfl, if_neg (by omega)]
  rw [hr]
  generalize (10 : Int) ^ k.toNat = P at *
  have hh := rndQ_half a b P (by omega) (by omega)
  have aP := mul_lim (x := a) (y := P) (k := 1999) (l := 1000) (by omega) (by omega) (by omega) (by omega) (by omega) (by omega)
  have hQ : -4000000 ≤ rndQ a b P ∧ rndQ a b P ≤ 4000000 := by
    have h2 : (rndQ a b P).natAbs ≤ (rndQ a b P * b).natAbs := by
      rw [Int.natAbs_mul]
      exact Nat.le_mul_of_pos_right _ (by omega)
    omega
  generalize rndQ a b P = Q at *
  have n1 : P ≠ 0 := by omega
  obtain ⟨p, q, e1, v1, c1⟩ := red_fine (n := Q) n1 (by omega) (by omega) (by omega) (by omega)
  have b2 := val_pos v1
  have vP : val P 1 = true := Num.val_iff.2 ⟨by omega, by omega, by omega, by omega, by simp⟩
  have vH : val 1 (2 * P) = true := Num.val_iff.2 ⟨by omega, by omega, by omega, by omega, by simp⟩
  have vM : val (-1) (2 * P) = true := Num.val_iff.2 ⟨by omega, by omega, by omega, by omega, by rw [Int.neg_gcd]; simp⟩
  refine ⟨p, q, Q, e1, v1, ?_, vP, vH, ?_, ?_⟩
  · rw [mulV, opV_ok v1 vP (.inl rfl)]
    exact Num.red_to (by omega) (Num.val_iff.2 ⟨by omega, by omega, by omega, by omega, by simp⟩) (by grind)
  · rw [subV, opV_ok (by decide) vH (.inl rfl)]
    exact Num.red_to (by omega) vM (by grind)
  · intro h
    obtain ⟨v2, c2⟩ := op_ok (r := subV a b p q) rfl v0 v1 (Int.mul_ne_zero b1.1 b2.1) h
    refine ⟨v2, ?_⟩
    have b3 := val_pos v2
    generalize (subV a b p q).1 = s at *
    generalize (subV a b p q).2.1 = t at *
    -- s / t = a / b - Q / P
    have key : s * (b * P) = (a * P - Q * b) * t := by
      have m : q ≠ 0 := b2.1
      refine Int.eq_of_mul_eq_mul_left m ?_
      grind
    rw [cmp_val v2 vH, cmp_val v2 vM]
    have hbP : 0 < b := by omega
    have up : s * (2 * P) ≤ t := by
      refine Int.le_of_mul_le_mul_right (a := b) ?_ hbP
      have h1 : (2 * (a * P) - 2 * (Q * b)) * t ≤ b * t := Int.mul_le_mul_of_nonneg_right hh.2 (by omega)
      have e3 : s * (2 * P) * b = (2 * (a * P) - 2 * (Q * b)) * t := by grind
      have e4 : t * b = b * t := Int.mul_comm _ _
      omega
    have dn : -t ≤ s * (2 * P) := by
      refine Int.le_of_mul_le_mul_right (a := b) ?_ hbP
      have h1 : -b * t ≤ (2 * (a * P) - 2 * (Q * b)) * t := Int.mul_le_mul_of_nonneg_right hh.1 (by omega)
      have e3 : s * (2 * P) * b = (2 * (a * P) - 2 * (Q * b)) * t := by grind
      have e4 : -t * b = -b * t := by grind
      omega
    unfold cmpV
    constructor
    · split
      · omega
      · split <;> omega
    · split
      · omega
      · split <;> omega

theorem cmpV_neg (x y : Int) : cmpV x y = -cmpV y x := by
  unfold cmpV
  split <;> split <;> omega
theorem cmpV_zero (x y : Int) : cmpV x y = 0 ↔ x = y := by
  unfold cmpV
  split
  · omega
  · split <;> omega
theorem cmpV_le (x y : Int) : cmpV x y ≤ 0 ↔ x ≤ y := by
  unfold cmpV
  split
  · omega
  · split <;> omega
theorem cmpN_range (a b c d : Int) : -1 ≤ cmpN a b c d ∧ cmpN a b c d ≤ 1 := by
  unfold cmpN cmpV
  split
  · split
    · omega
    · split <;> omega
  · omega
theorem cmp_neg {a b c d : Int} (v1 : val a b = true) (v2 : val c d = true) : cmpN a b c d = -cmpN c d a b := by
  rw [cmp_val v1 v2, cmp_val v2 v1, cmpV_neg]
theorem cmp_zero {a b c d : Int} (v1 : val a b = true) (v2 : val c d = true) : cmpN a b c d = 0 ↔ (a = c ∧ b = d) := by
  rw [cmp_val v1 v2, cmpV_zero]
  obtain ⟨_, _, k3, _, k5⟩ := Num.val_iff.1 v1
  obtain ⟨_, _, l3, _, l5⟩ := Num.val_iff.1 v2
  constructor
  · exact fun h => Num.uniq k3 l3 k5 l5 h
  · rintro ⟨rfl, rfl⟩; rfl
theorem cmp_trans {a b c d e f : Int} (v1 : val a b = true) (v2 : val c d = true) (v3 : val e f = true) (h1 : cmpN a b c d ≤ 0) (h2 : cmpN c d e f ≤ 0) : cmpN a b e f ≤ 0 := by
  rw [cmp_val v1 v2, cmpV_le] at h1
  rw [cmp_val v2 v3, cmpV_le] at h2
  rw [cmp_val v1 v3, cmpV_le]
  have b1 := val_pos v1
  have b2 := val_pos v2
  have b3 := val_pos v3
  refine Int.le_of_mul_le_mul_right (a := d) ?_ (by omega)
  have h3 := Int.mul_le_mul_of_nonneg_right h1 (show 0 ≤ f by omega)
  have h4 := Int.mul_le_mul_of_nonneg_right h2 (show 0 ≤ b by omega)
  have e1 : a * f * d = a * d * f := by ac_rfl
  have e2 : e * b * d = e * d * b := by ac_rfl
  have e3 : c * b * f = c * f * b := by ac_rfl
  omega
/-- sums keep the order -/
theorem cmp_add {a b c d e f : Int} (v1 : val a b = true) (v2 : val c d = true) (v3 : val e f = true) (s t : Int × Int × Int) (hs : s = addV a b e f) (ht : t = addV c d e f) (h1 : s.2.2 = 0) (h2 : t.2.2 = 0) :
    cmpN s.1 s.2.1 t.1 t.2.1 = cmpN a b c d := by
  have b1 := val_pos v1
  have b2 := val_pos v2
  have b3 := val_pos v3
  obtain ⟨vs, es⟩ := op_ok hs v1 v3 (Int.mul_ne_zero b1.1 b3.1) h1
  obtain ⟨vt, et⟩ := op_ok ht v2 v3 (Int.mul_ne_zero b2.1 b3.1) h2
  rw [cmp_val vs vt, cmp_val v1 v2]
  have b4 := val_pos vs
  have b5 := val_pos vt
  clear hs ht h1 h2
  obtain ⟨s1, s2, s3⟩ := s
  obtain ⟨t1, t2, t3⟩ := t
  simp only at *
  -- both sides times the denominators
  have sc : ∀ m x y : Int, 0 < m → cmpV (m * x) (m * y) = cmpV x y := by
    intro m x y hm
    have i1 : m * x < m * y ↔ x < y := Int.mul_lt_mul_left hm
    have i2 : m * y < m * x ↔ y < x := Int.mul_lt_mul_left hm
    simp only [cmpV, i1, i2]
  have p1 : 0 < b * d * f * f := Int.mul_pos (Int.mul_pos (Int.mul_pos (by omega) (by omega)) (by omega)) (by omega)
  have p2 : 0 < f * f * s2 * t2 := Int.mul_pos (Int.mul_pos (Int.mul_pos (by omega) (by omega)) (by omega)) (by omega)
  have sh : ∀ x y z : Int, cmpV (x + z) (y + z) = cmpV x y := by
    intro x y z
    have i1 : x + z < y + z ↔ x < y := by omega
    have i2 : y + z < x + z ↔ y < x := by omega
    simp only [cmpV, i1, i2]
  rw [← sc _ (s1 * t2) (t1 * s2) p1, ← sc _ (a * d) (c * b) p2, ← sh (f * f * s2 * t2 * (a * d)) _ (e * b * d * f * s2 * t2)]
  congr 1 <;> grind
end Go.Proofs.YtbddbhamkclndaaDoor
