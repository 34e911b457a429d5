/-
  Plain mathematics of exact numbers: the reduced fraction. No program in sight. No conditions but those typed in each theorem.
-/
import Derived.Test.YtlkfnpmcihfjmaaDoorBase
namespace Go.Proofs.YtlkfnpmcihfjmaaDoor
theorem _root_.Go.RowKit.Below.then_ {w w1 w2 : Go.World} (h : Go.RowKit.Below w.heap.size w w1) (k : Go.RowKit.Below w1.heap.size w1 w2) : Go.RowKit.Below w.heap.size w w2 := h.trans (k.mono h.size)
namespace Num

/-- the amount's part of a reduced fraction -/
def gc (n d : Int) : Int := (Int.gcd n d : Int)
def sN (n d : Int) : Int := if d < 0 then -n else n
def sD (d : Int) : Int := if d < 0 then -d else d
def rN (n d : Int) : Int := sN n d / gc n d
def rD (n d : Int) : Int := sD d / gc n d
def rB (n d : Int) : Bool := decide (-1000000000 ≤ rN n d ∧ rN n d ≤ 1000000000 ∧ rD n d ≤ 1000000000)
def redN (n d : Int) : Int := if rB n d = true then rN n d else 0
def redD (n d : Int) : Int := if rB n d = true then rD n d else 0
def redE (n d : Int) : Int := if rB n d = true then 0 else 15
/-- a valid number -/
def val (n d : Int) : Bool := decide (-1000000000 ≤ n ∧ n ≤ 1000000000 ∧ 1 ≤ d ∧ d ≤ 1000000000 ∧ Int.gcd n d = 1)

theorem val_iff {n d : Int} : val n d = true ↔ (-1000000000 ≤ n ∧ n ≤ 1000000000 ∧ 1 ≤ d ∧ d ≤ 1000000000 ∧ Int.gcd n d = 1) := by simp [val]

theorem gcd_mod {x y : Int} (hx : 0 ≤ x) (hy : 0 ≤ y) : Int.gcd (x % y) y = Int.gcd x y := by
  obtain ⟨m, rfl⟩ := Int.eq_ofNat_of_zero_le hx
  obtain ⟨n, rfl⟩ := Int.eq_ofNat_of_zero_le hy
  rw [← Int.natCast_emod, Int.gcd_natCast_natCast, Int.gcd_natCast_natCast, ← Nat.gcd_rec, Nat.gcd_comm]
theorem gc_pos (n : Int) {d : Int} (hd : d ≠ 0) : 1 ≤ gc n d := by
  have := Int.gcd_pos_of_ne_zero_right n hd
  unfold gc; omega
theorem gc_amount (n d : Int) : gc (max n (-n)) d = gc n d := by
  unfold gc
  rcases Int.le_total 0 n with h | h
  · rw [Int.max_eq_left (by omega)]
  · rw [Int.max_eq_right (by omega), Int.neg_gcd]
theorem gc_neg (n d : Int) : gc (-n) (-d) = gc n d := by unfold gc; rw [Int.gcd_neg, Int.neg_gcd]
theorem gc_dvd_n (n d : Int) : gc n d ∣ n := Int.gcd_dvd_left n d
theorem gc_dvd_d (n d : Int) : gc n d ∣ d := Int.gcd_dvd_right n d
theorem gc_dvd_s (n d e : Int) : gc n d ∣ sN n e := by unfold sN; split; exact (Int.dvd_neg).2 (gc_dvd_n n d); exact gc_dvd_n n d
theorem gc_dvd_sd (n d : Int) : gc n d ∣ sD d := by unfold sD; split; exact (Int.dvd_neg).2 (gc_dvd_d n d); exact gc_dvd_d n d
theorem sD_pos {d : Int} (hd : d ≠ 0) : 1 ≤ sD d := by unfold sD; split <;> omega
theorem rN_tdiv (n d : Int) : (sN n d).tdiv (gc n d) = rN n d := Int.tdiv_eq_ediv_of_dvd (gc_dvd_s n d d)
theorem rN_mul (n d : Int) : gc n d * rN n d = sN n d := Int.mul_ediv_cancel' (gc_dvd_s n d d)
theorem rD_mul (n d : Int) : gc n d * rD n d = sD d := Int.mul_ediv_cancel' (gc_dvd_sd n d)
theorem rD_pos (n : Int) {d : Int} (hd : d ≠ 0) : 1 ≤ rD n d := by
  have h1 := gc_pos n hd
  have h2 := sD_pos hd
  have h3 := rD_mul n d
  by_cases h : rD n d ≤ 0
  · have : gc n d * rD n d ≤ 0 := Int.mul_nonpos_of_nonneg_of_nonpos (by omega) h
    omega
  · omega
theorem rD_le (n : Int) {d : Int} (hd : d ≠ 0) : rD n d ≤ sD d := by
  have h1 := gc_pos n hd
  have h2 := sD_pos hd
  exact Int.ediv_le_self _ (by omega)
theorem rN_abs (n : Int) {d : Int} (hd : d ≠ 0) : max (rN n d) (-rN n d) ≤ max n (-n) := by
  have h1 := gc_pos n hd
  have h3 := rN_mul n d
  have h4 : max (sN n d) (-sN n d) = max n (-n) := by unfold sN; split <;> omega
  rw [← h4]
  generalize rN n d = q at *
  generalize gc n d = g at *
  generalize sN n d = s at *
  subst h3
  rcases Int.le_total 0 q with h | h
  · have : q ≤ g * q := by
      have := Int.mul_le_mul_of_nonneg_right (show 1 ≤ g by omega) h
      omega
    omega
  · have : g * q ≤ q := by
      have := Int.mul_le_mul_of_nonpos_right (show 1 ≤ g by omega) h
      omega
    omega
theorem gcd_red (n : Int) {d : Int} (hd : d ≠ 0) : Int.gcd (rN n d) (rD n d) = 1 := by
  have h1 := gc_pos n hd
  have h : Int.gcd (sN n d) (sD d) = Int.gcd n d := by
    unfold sN sD; split
    · rw [Int.gcd_neg, Int.neg_gcd]
    · rfl
  unfold rN rD gc
  rw [← h]
  refine Int.gcd_ediv_gcd_ediv_gcd ?_
  rw [h]; unfold gc at h1; omega
theorem red_val {n d : Int} (hd : d ≠ 0) (h : rB n d = true) : val (rN n d) (rD n d) = true := by
  simp only [rB, decide_eq_true_eq] at h
  exact val_iff.2 ⟨h.1, h.2.1, rD_pos n hd, h.2.2, gcd_red n hd⟩
end Num
end Go.Proofs.YtlkfnpmcihfjmaaDoor
