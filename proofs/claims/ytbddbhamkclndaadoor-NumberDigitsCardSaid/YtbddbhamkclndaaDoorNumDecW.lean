/-
  The notation with a point, by the program. Conditions: those typed in each theorem; the library's table of powers of ten reads as its initialiser lays it.
-/
import Derived.Test.YtbddbhamkclndaaDoorNumDec
import Derived.Test.YtbddbhamkclndaaDoorNumRound
namespace Go.Proofs.YtbddbhamkclndaaDoor
open Go.RowKit

theorem rep_zeros (c : Nat) : Lib.repeatL [48] c = Num.zeros c := by
  induction c with
  | zero => rfl
  | succ c ih => rw [Lib.repeatL, ih]; rfl
theorem repeat_any (c : Nat) (w : World) (hc : c ≤ 100) : Calls Tryd.prog 61 #[.string ⟨#[48]⟩, .int .i64 c] w fun e w' => e = .returned (.string ⟨(Num.zeros c).toArray⟩) ∧ Below w.heap.size w w' := by
  have := Tryd.strings_Repeat ⟨#[48]⟩ c w (by omega) (by show 1 * c ≤ _; omega)
  rw [show (⟨#[48]⟩ : ByteArray).data.toList = [48] from rfl, rep_zeros] at this
  exact this

set_option maxRecDepth 10000 in
set_option maxHeartbeats 1000000 in
theorem decimal_pad0 (n v : Int) (w : World) (hv : v ≤ 1000000000000000000) (hn : 0 ≤ n) (he : v = n) (k : Nat) (hk : k ≤ 9) (h0 : 0 < k) (S Z : ByteArray) (hl : S.size ≤ k) (hZ : Z.size = k + 1 - S.size)
    (hI : Calls Tryd.prog 53 #[.int .i64 v] w fun e w' => e = .returned (.string S) ∧ Below w.heap.size w w')
    (hR : ∀ w, Calls Tryd.prog 61 #[.string ⟨#[48]⟩, .int .i64 ((k : Int) + 1 - S.size)] w fun e w' => e = .returned (.string Z) ∧ Below w.heap.size w w') :
    Calls Tryd.prog 50 #[.int .i64 n, .int .i64 k] w fun e w' => e = .returned (.string ((Z ++ S).extract 0 1 ++ ⟨#[46]⟩ ++ (Z ++ S).extract 1 (k + 1))) ∧ Below w.heap.size w w' := by
  have h1 : decide (S.size ≤ k) = true := by simpa using hl
  have h2 : decide (0 < k) = true := by simpa using h0
  have h3 : decide (n < 0) = false := by simpa using hn
  go_enter Tryd.func50, Tryd.ntmps50
  go_wp2_with fail
  refine (size_any n _ (by omega) (by omega)).mono ?_
  rintro e w1 ⟨rfl, rfl⟩
  rw [show max n (-n) = v by omega]
  clear he
  go_wp2_with fail
  refine hI.mono ?_
  rintro e w1 ⟨rfl, hb1⟩
  go_wp2_with fail
  refine (hR _).mono ?_
  rintro e w2 ⟨rfl, hb2⟩
  have hT : (Z ++ S).size = k + 1 := by rw [ByteArray.size_append]; omega
  go_wp2_with fail
  go_region
  all_goals (try go_wp2_with fail)
  go_ret
  exact ⟨rfl, (hb1.then_ hb2).drew⟩
set_option maxRecDepth 10000 in
set_option maxHeartbeats 1000000 in
theorem decimal_cut0 (n v : Int) (w : World) (hv : v ≤ 1000000000000000000) (hn : 0 ≤ n) (he : v = n) (k : Nat) (h0 : 0 < k) (S : ByteArray) (hl : k < S.size) (hl2 : S.size ≤ 100)
    (hI : Calls Tryd.prog 53 #[.int .i64 v] w fun e w' => e = .returned (.string S) ∧ Below w.heap.size w w') :
    Calls Tryd.prog 50 #[.int .i64 n, .int .i64 k] w fun e w' => e = .returned (.string (S.extract 0 (S.size - k) ++ ⟨#[46]⟩ ++ S.extract (S.size - k) S.size)) ∧ Below w.heap.size w w' := by
  have h1 : decide (S.size ≤ k) = false := by simpa using hl
  have h2 : decide (0 < k) = true := by simpa using h0
  have h3 : decide (n < 0) = false := by simpa using hn
  go_enter Tryd.func50, Tryd.ntmps50
  go_wp2_with fail
  refine (size_any n _ (by omega) (by omega)).mono ?_
  rintro e w1 ⟨rfl, rfl⟩
  rw [show max n (-n) = v by omega]
  clear he
  go_wp2_with fail
  refine hI.mono ?_
  rintro e w1 ⟨rfl, hb1⟩
  go_wp2_with fail
  go_region
  all_goals (try go_wp2_with fail)
  go_ret
  exact ⟨rfl, hb1.drew⟩
set_option maxRecDepth 10000 in
set_option maxHeartbeats 1000000 in
theorem decimal_whole0 (n v : Int) (w : World) (hv : v ≤ 1000000000000000000) (hn : 0 ≤ n) (he : v = n) (S : ByteArray) (hl : 0 < S.size)
    (hI : Calls Tryd.prog 53 #[.int .i64 v] w fun e w' => e = .returned (.string S) ∧ Below w.heap.size w w') :
    Calls Tryd.prog 50 #[.int .i64 n, .int .i64 0] w fun e w' => e = .returned (.string S) ∧ Below w.heap.size w w' := by
  have h0 : ¬ S = ByteArray.empty := by rintro rfl; exact absurd hl (by decide)
  have h1 : decide (S.size ≤ 0) = false := by rw [decide_eq_false_iff_not]; omega
  have h1' : decide (S = ByteArray.empty) = false := by rw [decide_eq_false_iff_not]; exact h0
  have h3 : decide (n < 0) = false := by simpa using hn
  go_enter Tryd.func50, Tryd.ntmps50
  go_wp2_with fail
  refine (size_any n _ (by omega) (by omega)).mono ?_
  rintro e w1 ⟨rfl, rfl⟩
  rw [show max n (-n) = v by omega]
  clear he
  go_wp2_with fail
  refine hI.mono ?_
  rintro e w1 ⟨rfl, hb1⟩
  go_wp2_with fail
  go_ret
  exact ⟨rfl, hb1⟩
set_option maxRecDepth 10000 in
set_option maxHeartbeats 1000000 in
theorem decimal_pad1 (n v : Int) (w : World) (hv : v ≤ 1000000000000000000) (hn : n < 0) (he : v = -n) (k : Nat) (hk : k ≤ 9) (h0 : 0 < k) (S Z : ByteArray) (hl : S.size ≤ k) (hZ : Z.size = k + 1 - S.size)
    (hI : Calls Tryd.prog 53 #[.int .i64 v] w fun e w' => e = .returned (.string S) ∧ Below w.heap.size w w')
    (hR : ∀ w, Calls Tryd.prog 61 #[.string ⟨#[48]⟩, .int .i64 ((k : Int) + 1 - S.size)] w fun e w' => e = .returned (.string Z) ∧ Below w.heap.size w w') :
    Calls Tryd.prog 50 #[.int .i64 n, .int .i64 k] w fun e w' => e = .returned (.string (⟨#[45]⟩ ++ ((Z ++ S).extract 0 1 ++ ⟨#[46]⟩ ++ (Z ++ S).extract 1 (k + 1)))) ∧ Below w.heap.size w w' := by
  have h1 : decide (S.size ≤ k) = true := by simpa using hl
  have h2 : decide (0 < k) = true := by simpa using h0
  have h3 : decide (n < 0) = true := by simpa using hn
  go_enter Tryd.func50, Tryd.ntmps50
  go_wp2_with fail
  refine (size_any n _ (by omega) (by omega)).mono ?_
  rintro e w1 ⟨rfl, rfl⟩
  rw [show max n (-n) = v by omega]
  clear he
  go_wp2_with fail
  refine hI.mono ?_
  rintro e w1 ⟨rfl, hb1⟩
  go_wp2_with fail
  refine (hR _).mono ?_
  rintro e w2 ⟨rfl, hb2⟩
  have hT : (Z ++ S).size = k + 1 := by rw [ByteArray.size_append]; omega
  go_wp2_with fail
  go_region
  all_goals (try go_wp2_with fail)
  go_ret
  exact ⟨rfl, (hb1.then_ hb2).drew⟩
set_option maxRecDepth 10000 in
set_option maxHeartbeats 1000000 in
theorem decimal_cut1 (n v : Int) (w : World) (hv : v ≤ 1000000000000000000) (hn : n < 0) (he : v = -n) (k : Nat) (h0 : 0 < k) (S : ByteArray) (hl : k < S.size) (hl2 : S.size ≤ 100)
    (hI : Calls Tryd.prog 53 #[.int .i64 v] w fun e w' => e = .returned (.string S) ∧ Below w.heap.size w w') :
    Calls Tryd.prog 50 #[.int .i64 n, .int .i64 k] w fun e w' => e = .returned (.string (⟨#[45]⟩ ++ (S.extract 0 (S.size - k) ++ ⟨#[46]⟩ ++ S.extract (S.size - k) S.size))) ∧ Below w.heap.size w w' := by
  have h1 : decide (S.size ≤ k) = false := by simpa using hl
  have h2 : decide (0 < k) = true := by simpa using h0
  have h3 : decide (n < 0) = true := by simpa using hn
  go_enter Tryd.func50, Tryd.ntmps50
  go_wp2_with fail
  refine (size_any n _ (by omega) (by omega)).mono ?_
  rintro e w1 ⟨rfl, rfl⟩
  rw [show max n (-n) = v by omega]
  clear he
  go_wp2_with fail
  refine hI.mono ?_
  rintro e w1 ⟨rfl, hb1⟩
  go_wp2_with fail
  go_region
  all_goals (try go_wp2_with fail)
  go_ret
  exact ⟨rfl, hb1.drew⟩
set_option maxRecDepth 10000 in
set_option maxHeartbeats 1000000 in
theorem decimal_whole1 (n v : Int) (w : World) (hv : v ≤ 1000000000000000000) (hn : n < 0) (he : v = -n) (S : ByteArray) (hl : 0 < S.size) (hl2 : S.size ≤ 100)
    (hI : Calls Tryd.prog 53 #[.int .i64 v] w fun e w' => e = .returned (.string S) ∧ Below w.heap.size w w') :
    Calls Tryd.prog 50 #[.int .i64 n, .int .i64 0] w fun e w' => e = .returned (.string (⟨#[45]⟩ ++ S)) ∧ Below w.heap.size w w' := by
  have h0 : ¬ S = ByteArray.empty := by rintro rfl; exact absurd hl (by decide)
  have h1 : decide (S.size ≤ 0) = false := by rw [decide_eq_false_iff_not]; omega
  have h1' : decide (S = ByteArray.empty) = false := by rw [decide_eq_false_iff_not]; exact h0
  have h3 : decide (n < 0) = true := by simpa using hn
  go_enter Tryd.func50, Tryd.ntmps50
  go_wp2_with fail
  refine (size_any n _ (by omega) (by omega)).mono ?_
  rintro e w1 ⟨rfl, rfl⟩
  rw [show max n (-n) = v by omega]
  clear he
  go_wp2_with fail
  refine hI.mono ?_
  rintro e w1 ⟨rfl, hb1⟩
  go_wp2_with fail
  go_ret
  exact ⟨rfl, hb1⟩
/-- an integer's notation with k digits behind the point -/
def decZ (n : Int) (k : Nat) : List UInt8 := (if n < 0 then [45] else []) ++ Num.dec n.natAbs k
theorem mk_append (a b : List UInt8) : (⟨a.toArray⟩ : ByteArray) ++ ⟨b.toArray⟩ = ⟨(a ++ b).toArray⟩ := by
  rw [ByteArray.mk_append_mk]
theorem cut_left (a b : List UInt8) (i : Nat) (h : a.length = i) : (⟨(a ++ b).toArray⟩ : ByteArray).extract 0 i = ⟨a.toArray⟩ := by
  apply ByteArray.ext
  rw [ByteArray.data_extract]
  show (a ++ b).toArray.extract 0 i = a.toArray
  subst h
  simp
theorem cut_right (a b : List UInt8) (i j : Nat) (h : a.length = i) (h' : a.length + b.length = j) : (⟨(a ++ b).toArray⟩ : ByteArray).extract i j = ⟨b.toArray⟩ := by
  apply ByteArray.ext
  rw [ByteArray.data_extract]
  show (a ++ b).toArray.extract i j = b.toArray
  subst h h'
  simp
theorem size_mk (a : List UInt8) : (⟨a.toArray⟩ : ByteArray).size = a.length := List.size_toArray

theorem decimal_z (n : Int) (k : Nat) (w : World) (h0 : -1000000000000000000 ≤ n) (h1 : n ≤ 1000000000000000000) (hk : k ≤ 9) (ht : Tab w) :
    Calls Tryd.prog 50 #[.int .i64 n, .int .i64 k] w fun e w' => e = .returned (.string ⟨(decZ n k).toArray⟩) ∧ Below w.heap.size w w' := by
  have hI := itoa_any (n.natAbs : Int) w (by omega) (by omega) ht
  rw [itoa_nat] at hI
  have hs := size_mk (Lib.decDigits n.natAbs)
  have hle := Lib.itoa_length_le (n.natAbs : Int) (by omega) (by omega)
  rw [itoa_nat] at hle
  have hne := Num.dec_len n.natAbs
  have hp := Num.pad_eq k n.natAbs
  have hdl := Num.digs_len k n.natAbs
  have key : (decZ n k) = if n < 0 then [45] ++ Num.dec n.natAbs k else Num.dec n.natAbs k := by unfold decZ; split <;> simp
  have sg : ∀ R : List UInt8, Num.dec n.natAbs k = R → (n < 0 → (⟨(decZ n k).toArray⟩ : ByteArray) = ⟨#[45]⟩ ++ ⟨R.toArray⟩) ∧ (¬ n < 0 → (⟨(decZ n k).toArray⟩ : ByteArray) = ⟨R.toArray⟩) := by
    intro R hR
    rw [key, hR]
    refine ⟨fun h => ?_, fun h => ?_⟩
    · rw [if_pos h]; exact (mk_append [45] R).symm
    · rw [if_neg h]
  by_cases k0 : k = 0
  · subst k0
    obtain ⟨s1, s2⟩ := sg _ (by unfold Num.dec; rw [if_pos rfl])
    by_cases hn : n < 0
    · rw [s1 hn]
      exact decimal_whole1 n n.natAbs w (by omega) hn (by omega) _ (by omega) (by omega) hI
    · rw [s2 hn]
      exact decimal_whole0 n n.natAbs w (by omega) (by omega) (by omega) _ (by omega) hI
  have hd : Num.dec n.natAbs k = Lib.decDigits (n.natAbs / 10 ^ k) ++ [46] ++ Num.digs k n.natAbs := by unfold Num.dec; rw [if_neg k0]
  obtain ⟨s1, s2⟩ := sg _ hd
  by_cases hl : (Lib.decDigits n.natAbs).length ≤ k
  · rw [if_pos hl] at hp
    have hR := fun w => repeat_any (k + 1 - (Lib.decDigits n.natAbs).length) w (by omega)
    rw [show ((k + 1 - (Lib.decDigits n.natAbs).length : Nat) : Int) = (k : Int) + 1 - (⟨(Lib.decDigits n.natAbs).toArray⟩ : ByteArray).size by rw [hs]; omega] at hR
    have hz : (⟨(Num.zeros (k + 1 - (Lib.decDigits n.natAbs).length)).toArray⟩ : ByteArray).size = k + 1 - (⟨(Lib.decDigits n.natAbs).toArray⟩ : ByteArray).size := by rw [hs, size_mk]; exact List.length_replicate
    have hlen : (Lib.decDigits (n.natAbs / 10 ^ k)).length = 1 := by
      have := congrArg List.length hp
      rw [List.length_append, List.length_append, hdl, Num.zeros, List.length_replicate] at this
      omega
    have e : (((⟨(Num.zeros (k + 1 - (Lib.decDigits n.natAbs).length)).toArray⟩ : ByteArray) ++ ⟨(Lib.decDigits n.natAbs).toArray⟩).extract 0 1 ++ ⟨#[46]⟩ ++ ((⟨(Num.zeros (k + 1 - (Lib.decDigits n.natAbs).length)).toArray⟩ : ByteArray) ++ ⟨(Lib.decDigits n.natAbs).toArray⟩).extract 1 (k + 1)) = ⟨(Lib.decDigits (n.natAbs / 10 ^ k) ++ [46] ++ Num.digs k n.natAbs).toArray⟩ := by
      rw [mk_append (Num.zeros (k + 1 - (Lib.decDigits n.natAbs).length)) (Lib.decDigits n.natAbs), hp, cut_left _ _ _ hlen, cut_right _ _ _ _ hlen (by omega), ← mk_append (Lib.decDigits (n.natAbs / 10 ^ k) ++ [46]) (Num.digs k n.natAbs), ← mk_append (Lib.decDigits (n.natAbs / 10 ^ k)) [46]]
    by_cases hn : n < 0
    · rw [s1 hn, ← e]
      exact decimal_pad1 n n.natAbs w (by omega) hn (by omega) k hk (by omega) _ _ (by omega) hz hI hR
    · rw [s2 hn, ← e]
      exact decimal_pad0 n n.natAbs w (by omega) (by omega) (by omega) k hk (by omega) _ _ (by omega) hz hI hR
  · rw [if_neg hl, List.nil_append] at hp
    have hlen : (Lib.decDigits (n.natAbs / 10 ^ k)).length = (⟨(Lib.decDigits n.natAbs).toArray⟩ : ByteArray).size - k := by
      have := congrArg List.length hp
      rw [List.length_append, hdl] at this
      omega
    have e : ((⟨(Lib.decDigits n.natAbs).toArray⟩ : ByteArray).extract 0 ((⟨(Lib.decDigits n.natAbs).toArray⟩ : ByteArray).size - k) ++ ⟨#[46]⟩ ++ (⟨(Lib.decDigits n.natAbs).toArray⟩ : ByteArray).extract ((⟨(Lib.decDigits n.natAbs).toArray⟩ : ByteArray).size - k) (⟨(Lib.decDigits n.natAbs).toArray⟩ : ByteArray).size) = ⟨(Lib.decDigits (n.natAbs / 10 ^ k) ++ [46] ++ Num.digs k n.natAbs).toArray⟩ := by
      have hj : (Lib.decDigits (n.natAbs / 10 ^ k)).length + (Num.digs k n.natAbs).length = (⟨(Lib.decDigits n.natAbs).toArray⟩ : ByteArray).size := by omega
      generalize (⟨(Lib.decDigits n.natAbs).toArray⟩ : ByteArray).size = z at *
      rw [hp, cut_left _ _ _ hlen, cut_right _ _ _ _ hlen hj, ← mk_append (Lib.decDigits (n.natAbs / 10 ^ k) ++ [46]) (Num.digs k n.natAbs), ← mk_append (Lib.decDigits (n.natAbs / 10 ^ k)) [46]]
    by_cases hn : n < 0
    · rw [s1 hn, ← e]
      exact decimal_cut1 n n.natAbs w (by omega) hn (by omega) k (by omega) _ (by omega) (by omega) hI
    · rw [s2 hn, ← e]
      exact decimal_cut0 n n.natAbs w (by omega) (by omega) (by omega) k (by omega) _ (by omega) (by omega) hI
end Go.Proofs.YtbddbhamkclndaaDoor
