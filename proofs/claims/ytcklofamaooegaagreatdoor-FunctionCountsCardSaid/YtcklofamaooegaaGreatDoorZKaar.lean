/-
  The claim's own texts, packed. Conditions: those typed in each theorem.
-/
import Derived.Test.YtcklofamaooegaaGreatDoorZKaae
import Derived.Test.YtcklofamaooegaaGreatDoorShelf
import Derived.Lib.AppendIntMem
import Derived.Lib.ItoaLen
import Derived.Laws.IdiomStrings
import Derived.Laws.Concat
set_option maxHeartbeats 4000000
set_option maxRecDepth 10000
set_option linter.unusedVariables false
namespace Go.Proofs.YtcklofamaooegaaGreatDoor
open Go.RowKit
def Tab (w : World) : Prop := Lib.TabIs Tryz.prog w "internal/strconv.uint64pow10" .u64 Lib.pow10Tab
theorem Tab.on {w w' : World} (h : Tab w) (hb : Below w.heap.size w w') : Tab w' := (Lib.tabBelow_of_tabIs h) w' hb
theorem Tab.alloc {w : World} (h : Tab w) (o : Obj) : Tab (w.alloc o) := h.on (below_new0 _ _)
theorem Tab.drewN {w : World} (h : Tab w) (n : Nat) : Tab (w.drewN n) := h.on (below_drewN (Below.refl _ _) n)
theorem itoa_any (n : Int) (w : World) (h0 : -1000000000000000000 ≤ n) (h1 : n ≤ 1000000000000000000) (ht : Tab w) :
  Calls Tryz.prog 59 #[.int .i64 n] w fun e w' => e = .returned (.string ⟨(Lib.itoa n).toArray⟩) ∧ Below w.heap.size w w' :=
 (Tryz.strconv_Itoa n (by omega) (by omega) w ht).mono fun e w' ⟨he, k, os, hw⟩ => ⟨he, by rw [hw]; exact Lib.below_grow _ _ (Nat.le_refl _) _ _⟩
theorem decDigits_step (n : Nat) : Lib.decDigits n = if n < 10 then [UInt8.ofNat (48 + n)] else Lib.decDigits (n / 10) ++ [UInt8.ofNat (48 + n % 10)] := by
 rw [Lib.decDigits]; split <;> rfl
theorem itoa_nat (n : Nat) : Lib.itoa (n : Int) = Lib.decDigits n := by
 unfold Lib.itoa; rw [if_neg (by omega)]; simp
theorem cv_one (w : World) (d : Int) (h0 : 0 ≤ d) (h1 : d ≤ 255) :
  (convert 43 9 (.slice (some ⟨w.heap.size, 0, none⟩) 1 1)).run Tryz.prog (w.alloc (.cells #[.int .u8 d] 5)) = .ok (.string ⟨#[UInt8.ofNat d.toNat]⟩) (w.alloc (.cells #[.int .u8 d] 5)) := by
 have h := run_convert_bytes_back (P := Tryz.prog) (w.alloc (.cells #[.int .u8 d] 5)) 43 9 5 ⟨w.heap.size, 0, none⟩ 1 [UInt8.ofNat d.toNat] Tryz.underlying43 Tryz.underlying5 Tryz.underlying9 (by
  intro j hj
  obtain rfl : j = 0 := by simpa using hj
  have e : ((UInt8.ofNat d.toNat).toNat : Int) = d := by simp; omega
  simp only [List.getElem_cons_zero, e]
  simp [Addr.add])
 exact h
theorem itoa_step (n : Int) (h : 10 ≤ n) : Lib.itoa n = Lib.itoa (n / 10) ++ [UInt8.ofNat (48 + n % 10).toNat] := by
 obtain ⟨k, rfl⟩ := Int.eq_ofNat_of_zero_le (show 0 ≤ n by omega)
 have e1 : ((k : Int) / 10) = ((k / 10 : Nat) : Int) := by omega
 have e2 : (48 + (k : Int) % 10).toNat = 48 + k % 10 := by omega
 rw [e1, e2, itoa_nat, itoa_nat, decDigits_step, if_neg (by omega)]
theorem itoa_one (n : Int) (h0 : 0 ≤ n) (h : n < 10) : Lib.itoa n = [UInt8.ofNat (48 + n % 10).toNat] := by
 obtain ⟨k, rfl⟩ := Int.eq_ofNat_of_zero_le h0
 have e2 : (48 + (k : Int) % 10).toNat = 48 + k := by omega
 rw [e2, itoa_nat, decDigits_step, if_pos (by omega)]
theorem itoa_neg (n : Int) (h : n < 0) : Lib.itoa n = 45 :: Lib.itoa (-n) := by
 have : Lib.itoa (-n) = Lib.decDigits n.natAbs := by
  unfold Lib.itoa; rw [if_neg (by omega)]; congr 1; omega
 rw [this]; unfold Lib.itoa; rw [if_pos h]
theorem decimal_nat (k : Nat) : ∀ (n : Int) (w : World), 0 ≤ n → n ≤ k → n ≤ 1000000000000000000 →
  Calls Tryz.prog 20 #[.int .i64 n] w fun e w' => e = .returned (.string ⟨(Lib.itoa n).toArray⟩) ∧ Below w.heap.size w w' := by
 induction k with
 | zero =>
   intro n w h0 h1 h2
   obtain rfl : n = 0 := by omega
   have hcv := cv_one w 48 (by omega) (by omega)
   go_enter Tryz.func20, Tryz.ntmps20
   go_wp2_with fail
   go_ret
   exact ⟨by rw [itoa_one 0 (by omega) (by omega)]; rfl, below_new0 _ _⟩
 | succ k ih =>
   intro n w h0 h1 h2
   have hcv := cv_one w (48 + n % 10) (by omega) (by omega)
   by_cases hn : n < 10
   ·go_enter Tryz.func20, Tryz.ntmps20
    go_wp2_with fail
    go_ret
    exact ⟨by rw [itoa_one n (by omega) (by omega)]; rfl, below_new0 _ _⟩
   ·have hl := Lib.itoa_length_le (n / 10) (by omega) (by omega)
    go_enter Tryz.func20, Tryz.ntmps20
    go_wp2_with fail
    refine (ih (n / 10) _ (by omega) (by omega) (by omega)).mono ?_
    rintro e w1 ⟨rfl, hb1⟩
    go_wp2_with fail
    go_ret
    exact ⟨by rw [itoa_step n (by omega)]; simp [ByteArray.mk_append_mk], (below_new0 _ _).trans (hb1.mono (by simp))⟩
theorem decimal_any (n : Int) (w : World) (h0 : -1000000000000000000 ≤ n) (h2 : n ≤ 1000000000000000000) :
  Calls Tryz.prog 20 #[.int .i64 n] w fun e w' => e = .returned (.string ⟨(Lib.itoa n).toArray⟩) ∧ Below w.heap.size w w' := by
 by_cases hn : n < 0
 ·have hl := Lib.itoa_length_le (-n) (by omega) (by omega)
  go_enter Tryz.func20, Tryz.ntmps20
  go_wp2_with fail
  refine (decimal_nat (-n).toNat (-n) _ (by omega) (by omega) (by omega)).mono ?_
  rintro e w1 ⟨rfl, hb1⟩
  go_wp2_with fail
  go_ret
  exact ⟨by rw [itoa_neg n hn]; simp [ByteArray.mk_append_mk], hb1⟩
 ·exact decimal_nat n.toNat n w (by omega) (by omega) h2
end Go.Proofs.YtcklofamaooegaaGreatDoor
namespace Go.Proofs.YtcklofamaooegaaGreatDoor
namespace Num
open Lib (decDigits)
def digs : Nat → Nat → List UInt8
 | 0, _ => []
 | k + 1, n => digs k (n / 10) ++ [UInt8.ofNat (48 + n % 10)]
def zeros (n : Nat) : List UInt8 := List.replicate n 48
theorem digs_len (k : Nat) : ∀ n, (digs k n).length = k := by
 induction k with
 | zero => intro n; rfl
 | succ k ih => intro n; simp [digs, ih]
theorem zeros_succ (n : Nat) : zeros (n + 1) = zeros n ++ [48] := List.replicate_succ'
theorem digs_zero (k : Nat) : digs k 0 = zeros k := by
 induction k with
 | zero => rfl
 | succ k ih => rw [digs, zeros_succ, Nat.zero_div, ih]; rfl
theorem digs_mod (k : Nat) : ∀ n, digs k (n % 10 ^ k) = digs k n := by
 induction k with
 | zero => intro n; rfl
 | succ k ih =>
   intro n
   have h1 : n % 10 ^ (k + 1) / 10 = n / 10 % 10 ^ k := by
    rw [Nat.pow_succ, Nat.mul_comm, Nat.mod_mul_right_div_self]
   have h2 : n % 10 ^ (k + 1) % 10 = n % 10 := by
    rw [Nat.pow_succ, Nat.mod_mul_left_mod]
   rw [digs, digs, h1, h2, ih]
theorem dec_len (n : Nat) : (decDigits n).length ≠ 0 := by
 rw [decDigits_step]; split <;> simp
theorem pad_eq (k : Nat) : ∀ v, (if (decDigits v).length ≤ k then zeros (k + 1 - (decDigits v).length) else []) ++ decDigits v = decDigits (v / 10 ^ k) ++ digs k v := by
 induction k with
 | zero =>
   intro v
   have := dec_len v
   rw [if_neg (by omega)]
   simp [digs]
 | succ k ih =>
   intro v
   have hq : v / 10 ^ (k + 1) = v / 10 / 10 ^ k := by rw [Nat.pow_succ, Nat.mul_comm, Nat.div_div_eq_div_mul]
   rw [hq]
   by_cases h : v < 10
   ·have e : decDigits v = [UInt8.ofNat (48 + v)] := by rw [decDigits_step, if_pos h]
    have z : v / 10 = 0 := by omega
    have m : v % 10 = v := by omega
    rw [e, z, Nat.zero_div, digs, z, digs_zero, m]
    simp only [List.length_singleton]
    rw [if_pos (by omega), show decDigits 0 = [48] by rw [decDigits_step]; rfl, show k + 1 + 1 - 1 = k + 1 by omega, ← List.append_assoc]
    congr 1
   ·have e : decDigits v = decDigits (v / 10) ++ [UInt8.ofNat (48 + v % 10)] := by rw [decDigits_step, if_neg h]
    have := ih (v / 10)
    rw [digs, ← List.append_assoc, ← this, e]
    simp only [List.length_append, List.length_singleton]
    by_cases hl : (decDigits (v / 10)).length ≤ k
    ·rw [if_pos hl, if_pos (by omega), show k + 1 + 1 - ((decDigits (v / 10)).length + 1) = k + 1 - (decDigits (v / 10)).length by omega, List.append_assoc]
    ·rw [if_neg hl, if_neg (by omega)]; simp
theorem fill_eq (k : Nat) : ∀ m, m < 10 ^ (k + 1) → (decDigits m).length ≤ k + 1 ∧ zeros (k + 1 - (decDigits m).length) ++ decDigits m = digs (k + 1) m := by
 induction k with
 | zero =>
   intro m h
   have h' : m < 10 := by simpa using h
   have e : decDigits m = [UInt8.ofNat (48 + m)] := by rw [decDigits_step, if_pos h']
   have m' : m % 10 = m := by omega
   rw [e]
   simp [digs, zeros, m']
 | succ k ih =>
   intro m h
   by_cases h' : m < 10
   ·have e : decDigits m = [UInt8.ofNat (48 + m)] := by rw [decDigits_step, if_pos h']
    have z : m / 10 = 0 := by omega
    have m' : m % 10 = m := by omega
    rw [e, digs, z, digs_zero, m']
    simp
   ·have e : decDigits m = decDigits (m / 10) ++ [UInt8.ofNat (48 + m % 10)] := by rw [decDigits_step, if_neg h']
    obtain ⟨h1, h2⟩ := ih (m / 10) (by rw [Nat.pow_succ] at h; omega)
    rw [digs, ← h2, e]
    simp only [List.length_append, List.length_singleton]
    exact ⟨by omega, by rw [show k + 1 + 1 - ((decDigits (m / 10)).length + 1) = k + 1 - (decDigits (m / 10)).length by omega, List.append_assoc]⟩
def dec (v k : Nat) : List UInt8 := if k = 0 then decDigits v else decDigits (v / 10 ^ k) ++ [46] ++ digs k v
end Num
end Go.Proofs.YtcklofamaooegaaGreatDoor
