/-
  Decimal notations with a point, in plain mathematics. No program in sight. No conditions but those typed in each theorem.
-/
import Derived.Test.YtlkfnpmcihfjmaaDoorItoa
namespace Go.Proofs.YtlkfnpmcihfjmaaDoor
namespace Num
open Lib (decDigits)

/-- the last k digits -/
def digs : Nat → Nat → List UInt8
  | 0, _ => []
  | k + 1, n => digs k (n / 10) ++ [UInt8.ofNat (48 + n % 10)]
def zeros (n : Nat) : List UInt8 := List.replicate n 48
theorem digs_len (k : Nat) : ∀ n, (digs k n).length = k := by
  induction k with
  | zero => intro n; rfl
  | succ k ih => intro n; simp [digs, ih]
theorem zeros_succ (n : Nat) : zeros (n + 1) = zeros n ++ [48] := List.replicate_succ'
theorem digs_zero (k : Nat) : digs k 0 = zeros k := by
  induction k with
  | zero => rfl
  | succ k ih => rw [digs, zeros_succ, Nat.zero_div, ih]; rfl
theorem digs_mod (k : Nat) : ∀ n, digs k (n % 10 ^ k) = digs k n := by
  induction k with
  | zero => intro n; rfl
  | succ k ih =>
    intro n
    have h1 : n % 10 ^ (k + 1) / 10 = n / 10 % 10 ^ k := by
      rw [Nat.pow_succ, Nat.mul_comm, Nat.mod_mul_right_div_self]
    have h2 : n % 10 ^ (k + 1) % 10 = n % 10 := by
      rw [Nat.pow_succ, Nat.mod_mul_left_mod]
    rw [digs, digs, h1, h2, ih]
theorem dec_len (n : Nat) : (decDigits n).length ≠ 0 := by
  rw [decDigits_step]; split <;> simp
/-- the digits with zeros ahead: those ahead of the point, and those behind it -/
theorem pad_eq (k : Nat) : ∀ v, (if (decDigits v).length ≤ k then zeros (k + 1 - (decDigits v).length) else []) ++ decDigits v = decDigits (v / 10 ^ k) ++ digs k v := by
  induction k with
  | zero =>
    intro v
    have := dec_len v
    rw [if_neg (by omega)]
    simp [digs]
  | succ k ih =>
    intro v
    have hq : v / 10 ^ (k + 1) = v / 10 / 10 ^ k := by rw [Nat.pow_succ, Nat.mul_comm, Nat.div_div_eq_div_mul]
    rw [hq]
    by_cases h : v < 10
    · have e : decDigits v = [UInt8.ofNat (48 + v)] := by rw [decDigits_step, if_pos h]
      have z : v / 10 = 0 := by omega
      have m : v % 10 = v := by omega
      rw [e, z, Nat.zero_div, digs, z, digs_zero, m]
      simp only [List.length_singleton]
      rw [if_pos (by omega), show decDigits 0 = [48] by rw [decDigits_step]; rfl, show k + 1 + 1 - 1 = k + 1 by omega, ← List.append_assoc]
      congr 1
    · have e : decDigits v = decDigits (v / 10) ++ [UInt8.ofNat (48 + v % 10)] := by rw [decDigits_step, if_neg h]
      have := ih (v / 10)
      rw [digs, ← List.append_assoc, ← this, e]
      simp only [List.length_append, List.length_singleton]
      by_cases hl : (decDigits (v / 10)).length ≤ k
      · rw [if_pos hl, if_pos (by omega), show k + 1 + 1 - ((decDigits (v / 10)).length + 1) = k + 1 - (decDigits (v / 10)).length by omega, List.append_assoc]
      · rw [if_neg hl, if_neg (by omega)]; simp
theorem fill_eq (k : Nat) : ∀ m, m < 10 ^ (k + 1) → (decDigits m).length ≤ k + 1 ∧ zeros (k + 1 - (decDigits m).length) ++ decDigits m = digs (k + 1) m := by
  induction k with
  | zero =>
    intro m h
    have h' : m < 10 := by simpa using h
    have e : decDigits m = [UInt8.ofNat (48 + m)] := by rw [decDigits_step, if_pos h']
    have m' : m % 10 = m := by omega
    rw [e]
    simp [digs, zeros, m']
  | succ k ih =>
    intro m h
    by_cases h' : m < 10
    · have e : decDigits m = [UInt8.ofNat (48 + m)] := by rw [decDigits_step, if_pos h']
      have z : m / 10 = 0 := by omega
      have m' : m % 10 = m := by omega
      rw [e, digs, z, digs_zero, m']
      simp
    · have e : decDigits m = decDigits (m / 10) ++ [UInt8.ofNat (48 + m % 10)] := by rw [decDigits_step, if_neg h']
      obtain ⟨h1, h2⟩ := ih (m / 10) (by rw [Nat.pow_succ] at h; omega)
      rw [digs, ← h2, e]
      simp only [List.length_append, List.length_singleton]
      exact ⟨by omega, by rw [show k + 1 + 1 - ((decDigits (m / 10)).length + 1) = k + 1 - (decDigits (m / 10)).length by omega, List.append_assoc]⟩
/-- a natural number's notation with k digits behind the point -/
def dec (v k : Nat) : List UInt8 := if k = 0 then decDigits v else decDigits (v / 10 ^ k) ++ [46] ++ digs k v
end Num
end Go.Proofs.YtlkfnpmcihfjmaaDoor
