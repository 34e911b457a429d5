/-
  Plain mathematics of exact numbers: a reduced fraction depends on its value alone. No program in sight. No conditions but those typed in each theorem.
-/
import Derived.Test.YtlkfnpmcihfjmaaDoorNumMath
namespace Go.Proofs.YtlkfnpmcihfjmaaDoor
namespace Num

theorem sN_sD {n d : Int} (_hd : d ≠ 0) : sN n d * d = n * sD d := by
  unfold sN sD; split
  · rw [Int.neg_mul, Int.mul_neg]
  · rfl
/-- the reduced form has the value -/
theorem r_cross (n : Int) {d : Int} (hd : d ≠ 0) : rN n d * d = n * rD n d := by
  have h1 := rN_mul n d
  have h2 := rD_mul n d
  have h3 := gc_pos n hd
  have h4 := sN_sD (n := n) hd
  refine Int.eq_of_mul_eq_mul_left (show gc n d ≠ 0 by omega) ?_
  rw [← Int.mul_assoc, h1, h4, ← h2, Int.mul_left_comm]
theorem dvd_co {k m n : Int} (g : Int.gcd k m = 1) (h : k ∣ m * n) : k ∣ n := by
  have h1 := Int.natAbs_dvd_natAbs.2 h
  rw [Int.natAbs_mul] at h1
  exact Int.natAbs_dvd_natAbs.1 (Nat.Coprime.dvd_of_dvd_mul_left (show Nat.Coprime k.natAbs m.natAbs from g) h1)
/-- reduced forms of one value are one -/
theorem uniq {p q r s : Int} (hq : 1 ≤ q) (hs : 1 ≤ s) (g1 : Int.gcd p q = 1) (g2 : Int.gcd r s = 1) (h : p * s = r * q) : p = r ∧ q = s := by
  have d1 : q ∣ s := by
    have : q ∣ p * s := ⟨r, by rw [h, Int.mul_comm]⟩
    exact dvd_co (by rw [Int.gcd_comm]; exact g1) this
  have d2 : s ∣ q := by
    have : s ∣ r * q := ⟨p, by rw [← h, Int.mul_comm]⟩
    exact dvd_co (by rw [Int.gcd_comm]; exact g2) this
  have e : q = s := by
    have := Int.le_of_dvd (by omega) d1
    have := Int.le_of_dvd (by omega) d2
    omega
  subst e
  exact ⟨Int.eq_of_mul_eq_mul_right (by omega) h, rfl⟩
theorem r_eq {n d m e : Int} (hd : d ≠ 0) (he : e ≠ 0) (h : n * e = m * d) : rN n d = rN m e ∧ rD n d = rD m e := by
  have p1 := rD_pos n hd
  have p2 := rD_pos m he
  refine uniq p1 p2 (gcd_red n hd) (gcd_red m he) ?_
  have c1 := r_cross n hd
  have c2 := r_cross m he
  refine Int.eq_of_mul_eq_mul_right hd (Int.eq_of_mul_eq_mul_right he ?_)
  calc rN n d * rD m e * d * e = (rN n d * d) * e * rD m e := by ac_rfl
    _ = (n * e) * (rD n d * rD m e) := by rw [c1]; ac_rfl
    _ = (m * rD m e) * d * rD n d := by rw [h]; ac_rfl
    _ = rN m e * rD n d * d * e := by rw [← c2]; ac_rfl
/-- the reduction as a whole -/
def red (n d : Int) : Int × Int × Int := (redN n d, redD n d, redE n d)
theorem red_eq {n d m e : Int} (hd : d ≠ 0) (he : e ≠ 0) (h : n * e = m * d) : red n d = red m e := by
  obtain ⟨h1, h2⟩ := r_eq hd he h
  have h3 : rB n d = rB m e := by unfold rB; rw [h1, h2]
  simp only [red, redN, redD, redE, h1, h2, h3]
theorem r_val {a b : Int} (v : val a b = true) : rN a b = a ∧ rD a b = b := by
  obtain ⟨k1, k2, k3, k4, k5⟩ := val_iff.1 v
  have hb : b ≠ 0 := by omega
  refine uniq (rD_pos a hb) k3 (gcd_red a hb) k5 (r_cross a hb)
theorem red_val_self {a b : Int} (v : val a b = true) : red a b = (a, b, 0) := by
  obtain ⟨k1, k2, k3, k4, k5⟩ := val_iff.1 v
  obtain ⟨h1, h2⟩ := r_val v
  have h3 : rB a b = true := by unfold rB; rw [h1, h2]; simp; omega
  simp only [red, redN, redD, redE, h1, h2, h3, if_true]
/-- a value that has a valid form -/
theorem red_to {n d a b : Int} (hd : d ≠ 0) (v : val a b = true) (h : n * b = a * d) : red n d = (a, b, 0) := by
  rw [← red_val_self v]
  exact red_eq hd (by have := val_iff.1 v; omega) h
/-- what has no error is valid and has the value -/
theorem red_ok {n d : Int} (hd : d ≠ 0) (h : redE n d = 0) : val (redN n d) (redD n d) = true ∧ redN n d * d = n * redD n d := by
  cases hr : rB n d
  · rw [redE, hr] at h; simp at h
  · simp only [redN, redD, hr, if_true]
    exact ⟨red_val hd hr, r_cross n hd⟩
theorem red_small {n d : Int} (hd : d ≠ 0) (n1 : -1000000000 ≤ n) (n2 : n ≤ 1000000000) (d1 : -1000000000 ≤ d) (d2 : d ≤ 1000000000) : redE n d = 0 := by
  have h1 := rN_abs n hd
  have h2 := rD_le n hd
  have h3 : sD d ≤ 1000000000 := by unfold sD; split <;> omega
  have : rB n d = true := by unfold rB; simp; omega
  rw [redE, this, if_pos rfl]
end Num
end Go.Proofs.YtlkfnpmcihfjmaaDoor
