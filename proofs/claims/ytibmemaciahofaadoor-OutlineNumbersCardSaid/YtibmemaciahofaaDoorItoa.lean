/-
  Decimal notations at this program: strconv.Itoa and the reference's Decimal, for integers of at most 10^18 in amount. Condition: the library's table of powers of ten reads as its initialiser lays it.
-/
import Derived.Test.YtibmemaciahofaaDoorBase
import Derived.Test.YtibmemaciahofaaDoorShelf
import Derived.Lib.AppendIntMem
import Derived.Lib.ItoaLen
import Derived.Laws.IdiomStrings
import Derived.Laws.Concat
namespace Go.Proofs.YtibmemaciahofaaDoor
open Go.RowKit

/-- The library's table of powers of ten, as it is laid. -/
def Tab (w : World) : Prop := Lib.TabIs Tryd.prog w "internal/strconv.uint64pow10" .u64 Lib.pow10Tab
theorem Tab.on {w w' : World} (h : Tab w) (hb : Below w.heap.size w w') : Tab w' := (Lib.tabBelow_of_tabIs h) w' hb
theorem Tab.alloc {w : World} (h : Tab w) (o : Obj) : Tab (w.alloc o) := h.on (below_new0 _ _)
theorem Tab.drewN {w : World} (h : Tab w) (n : Nat) : Tab (w.drewN n) := h.on (below_drewN (Below.refl _ _) n)

theorem itoa_any (n : Int) (w : World) (h0 : -1000000000000000000 ≤ n) (h1 : n ≤ 1000000000000000000) (ht : Tab w) :
    Calls Tryd.prog 39 #[.int .i64 n] w fun e w' => e = .returned (.string ⟨(Lib.itoa n).toArray⟩) ∧ Below w.heap.size w w' :=
  (Tryd.strconv_Itoa n (by omega) (by omega) w ht).mono fun e w' ⟨he, k, os, hw⟩ => ⟨he, by rw [hw]; exact Lib.below_grow _ _ (Nat.le_refl _) _ _⟩

theorem decDigits_step (n : Nat) : Lib.decDigits n = if n < 10 then [UInt8.ofNat (48 + n)] else Lib.decDigits (n / 10) ++ [UInt8.ofNat (48 + n % 10)] := by
  rw [Lib.decDigits]; split <;> rfl
theorem itoa_nat (n : Nat) : Lib.itoa (n : Int) = Lib.decDigits n := by
  unfold Lib.itoa; rw [if_neg (by omega)]; simp

/-- the digits, by so many steps: to reckon with -/
def digF : Nat → Nat → List UInt8
  | 0, _ => []
  | k + 1, n => if n < 10 then [UInt8.ofNat (48 + n)] else digF k (n / 10) ++ [UInt8.ofNat (48 + n % 10)]
theorem digF_eq (k : Nat) : ∀ n, n < 10 ^ k → Lib.decDigits n = digF (k + 1) n := by
  induction k with
  | zero => intro n h; have : n = 0 := by simpa using h
            subst this; rw [decDigits_step]; rfl
  | succ k ih =>
    intro n h
    rw [decDigits_step, digF]
    split
    · rfl
    · rw [ih (n / 10) (by rw [Nat.pow_succ] at h; omega)]
theorem itoa_reckon (n : Nat) (h : n < 10000000000) : Lib.itoa (n : Int) = digF 11 n := by rw [itoa_nat, digF_eq 10 n (by omega)]
/-- 'string(b)' of one byte. -/
theorem cv_one (w : World) (d : Int) (h0 : 0 ≤ d) (h1 : d ≤ 255) :
    (convert 58 9 (.slice (some ⟨w.heap.size, 0, none⟩) 1 1)).run Tryd.prog (w.alloc (.cells #[.int .u8 d] 5)) = .ok (.string ⟨#[UInt8.ofNat d.toNat]⟩) (w.alloc (.cells #[.int .u8 d] 5)) := by
  have h := run_convert_bytes_back (P := Tryd.prog) (w.alloc (.cells #[.int .u8 d] 5)) 58 9 5 ⟨w.heap.size, 0, none⟩ 1 [UInt8.ofNat d.toNat] Tryd.underlying58 Tryd.underlying5 Tryd.underlying9 (by
    intro j hj
    obtain rfl : j = 0 := by simpa using hj
    have e : ((UInt8.ofNat d.toNat).toNat : Int) = d := by simp; omega
    simp only [List.getElem_cons_zero, e]
    simp [Addr.add])
  exact h

theorem itoa_step (n : Int) (h : 10 ≤ n) : Lib.itoa n = Lib.itoa (n / 10) ++ [UInt8.ofNat (48 + n % 10).toNat] := by
  obtain ⟨k, rfl⟩ := Int.eq_ofNat_of_zero_le (show 0 ≤ n by omega)
  have e1 : ((k : Int) / 10) = ((k / 10 : Nat) : Int) := by omega
  have e2 : (48 + (k : Int) % 10).toNat = 48 + k % 10 := by omega
  rw [e1, e2, itoa_nat, itoa_nat, decDigits_step, if_neg (by omega)]
theorem itoa_one (n : Int) (h0 : 0 ≤ n) (h : n < 10) : Lib.itoa n = [UInt8.ofNat (48 + n % 10).toNat] := by
  obtain ⟨k, rfl⟩ := Int.eq_ofNat_of_zero_le h0
  have e2 : (48 + (k : Int) % 10).toNat = 48 + k := by omega
  rw [e2, itoa_nat, decDigits_step, if_pos (by omega)]
theorem itoa_neg (n : Int) (h : n < 0) : Lib.itoa n = 45 :: Lib.itoa (-n) := by
  have : Lib.itoa (-n) = Lib.decDigits n.natAbs := by
    unfold Lib.itoa; rw [if_neg (by omega)]; congr 1; omega
  rw [this]; unfold Lib.itoa; rw [if_pos h]
theorem ret_str {a b : List UInt8} (h : a = b) : Ending.returned (.string ⟨a.toArray⟩) = .returned (.string ⟨b.toArray⟩) := by rw [h]

set_option maxRecDepth 4000 in
theorem decimal_nat (k : Nat) : ∀ (n : Int) (w : World), 0 ≤ n → n ≤ k → n ≤ 1000000000000000000 →
    Calls Tryd.prog 54 #[.int .i64 n] w fun e w' => e = .returned (.string ⟨(Lib.itoa n).toArray⟩) ∧ Below w.heap.size w w' := by
  induction k with
  | zero =>
    intro n w h0 h1 h2
    obtain rfl : n = 0 := by omega
    have hcv := cv_one w 48 (by omega) (by omega)
    go_enter Tryd.func54, Tryd.ntmps54
    go_wp2_with fail
    go_ret
    exact ⟨by rw [itoa_one 0 (by omega) (by omega)]; rfl, below_new0 _ _⟩
  | succ k ih =>
    intro n w h0 h1 h2
    have hcv := cv_one w (48 + n % 10) (by omega) (by omega)
    by_cases hn : n < 10
    · go_enter Tryd.func54, Tryd.ntmps54
      go_wp2_with fail
      go_ret
      exact ⟨by rw [itoa_one n (by omega) (by omega)]; rfl, below_new0 _ _⟩
    · have hl := Lib.itoa_length_le (n / 10) (by omega) (by omega)
      go_enter Tryd.func54, Tryd.ntmps54
      go_wp2_with fail
      refine (ih (n / 10) _ (by omega) (by omega) (by omega)).mono ?_
      rintro e w1 ⟨rfl, hb1⟩
      go_wp2_with fail
      go_ret
      exact ⟨by rw [itoa_step n (by omega)]; simp [ByteArray.mk_append_mk], (below_new0 _ _).trans (hb1.mono (by simp))⟩

theorem decimal_any (n : Int) (w : World) (h0 : -1000000000000000000 ≤ n) (h2 : n ≤ 1000000000000000000) :
    Calls Tryd.prog 54 #[.int .i64 n] w fun e w' => e = .returned (.string ⟨(Lib.itoa n).toArray⟩) ∧ Below w.heap.size w w' := by
  by_cases hn : n < 0
  · have hl := Lib.itoa_length_le (-n) (by omega) (by omega)
    go_enter Tryd.func54, Tryd.ntmps54
    go_wp2_with fail
    refine (decimal_nat (-n).toNat (-n) _ (by omega) (by omega) (by omega)).mono ?_
    rintro e w1 ⟨rfl, hb1⟩
    go_wp2_with fail
    go_ret
    exact ⟨by rw [itoa_neg n hn]; simp [ByteArray.mk_append_mk], hb1⟩
  · exact decimal_nat n.toNat n w (by omega) (by omega) h2
end Go.Proofs.YtibmemaciahofaaDoor
