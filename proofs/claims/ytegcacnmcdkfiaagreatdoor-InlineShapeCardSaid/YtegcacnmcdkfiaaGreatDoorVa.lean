/-
  A mask of low bits on an int64 is the remainder by its power of two. No conditions but those typed.
-/
import Derived.Test.YtegcacnmcdkfiaaGreatDoorTb

namespace Go.Proofs.YtegcacnmcdkfiaaGreatDoor
theorem mask_i64 (k : Nat) (hk : k ≤ 62) (n : Int) (m : Int) (hm : m = 2 ^ k - 1) : bits BinOp.and IntKind.i64 n m = n % 2 ^ k := by
  subst hm
  have hp : (2 : Nat) ^ k ≤ 2 ^ 62 := Nat.pow_le_pow_right (by decide) hk
  have h1 : 1 ≤ (2 : Nat) ^ k := Nat.one_le_two_pow
  have e : ((2 : Int) ^ k) = ((2 ^ k : Nat) : Int) := by simp
  have hb : IntKind.i64.bits = 64 := rfl
  have e64 : (2 : Int) ^ 64 = 18446744073709551616 := by decide
  have e62 : (2 : Nat) ^ 62 = 4611686018427387904 := by decide
  have a1 : (BitVec.ofInt 64 n).toNat = (n % 18446744073709551616).toNat := by rw [BitVec.toNat_ofInt]; rfl
  have a2 : (BitVec.ofInt 64 ((2 : Int) ^ k - 1)).toNat = 2 ^ k - 1 := by
    rw [BitVec.toNat_ofInt]
    rw [e]
    show ((((2 ^ k : Nat) : Int) - 1) % ((18446744073709551616 : Nat) : Int)).toNat = _
    generalize (2 : Nat) ^ k = p at *
    omega
  have key : (BitVec.ofInt 64 n).toNat &&& (BitVec.ofInt 64 ((2 : Int) ^ k - 1)).toNat = (n % 18446744073709551616).toNat % 2 ^ k := by rw [a1, a2, Nat.and_two_pow_sub_one_eq_mod]
  show IntKind.i64.wrap (((BitVec.ofInt 64 n &&& BitVec.ofInt 64 ((2 : Int) ^ k - 1)).toNat : Nat) : Int) = _
  rw [BitVec.toNat_and, key, e]
  have hdvd : (2 ^ k : Nat) ∣ 18446744073709551616 := ⟨2 ^ (64 - k), by rw [← Nat.pow_add, show k + (64 - k) = 64 by omega]⟩
  obtain ⟨q, hq⟩ := hdvd
  have hmod : ((n % 18446744073709551616).toNat % 2 ^ k : Nat) = (n % ((2 ^ k : Nat) : Int)).toNat := by
    apply Int.ofNat_inj.1
    rw [Int.natCast_emod, Int.toNat_of_nonneg (Int.emod_nonneg _ (by decide)), Int.toNat_of_nonneg (Int.emod_nonneg _ (by omega))]
    exact Int.emod_emod_of_dvd n ⟨(q : Int), by rw [← Int.natCast_mul, ← hq]; rfl⟩
  rw [hmod, Int.toNat_of_nonneg (Int.emod_nonneg _ (by omega))]
  apply IntWalk.i64_in
  have := Int.emod_nonneg n (show ((2 ^ k : Nat) : Int) ≠ 0 by omega)
  have := Int.emod_lt_of_pos n (show (0 : Int) < ((2 ^ k : Nat) : Int) by omega)
  omega
end Go.Proofs.YtegcacnmcdkfiaaGreatDoor
