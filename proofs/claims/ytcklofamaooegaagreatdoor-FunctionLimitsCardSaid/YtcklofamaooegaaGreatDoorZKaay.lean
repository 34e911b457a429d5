/-
  The claim's own texts, packed. Conditions: those typed in each theorem.
-/
import Derived.Test.YtcklofamaooegaaGreatDoorZKaar
import Derived.Test.YtcklofamaooegaaGreatDoorZKaai
import Derived.Lib.Repeat
import Derived.Test.YtcklofamaooegaaGreatDoorZKaaj
set_option maxHeartbeats 4000000
set_option maxRecDepth 10000
set_option linter.unusedVariables false
namespace Go.Proofs.YtcklofamaooegaaGreatDoor
open Go.RowKit
theorem rep_zeros (c : Nat) : Lib.repeatL [48] c = Num.zeros c := by
 induction c with
 | zero => rfl
 | succ c ih => rw [Lib.repeatL, ih]; rfl
theorem repeat_any (c : Nat) (w : World) (hc : c ≤ 100) : Calls Tryz.prog 118 #[.string ⟨#[48]⟩, .int .i64 c] w fun e w' => e = .returned (.string ⟨(Num.zeros c).toArray⟩) ∧ Below w.heap.size w w' := by
 have := Tryz.strings_Repeat ⟨#[48]⟩ c w (by omega) (by show 1 * c ≤ _; omega)
 rw [show (⟨#[48]⟩ : ByteArray).data.toList = [48] from rfl, rep_zeros] at this
 exact this
theorem decimal_pad0 (n v : Int) (w : World) (hv : v ≤ 1000000000000000000) (hn : 0 ≤ n) (he : v = n) (k : Nat) (hk : k ≤ 9) (h0 : 0 < k) (S Z : ByteArray) (hl : S.size ≤ k) (hZ : Z.size = k + 1 - S.size)
  (hI : Calls Tryz.prog 59 #[.int .i64 v] w fun e w' => e = .returned (.string S) ∧ Below w.heap.size w w')
  (hR : ∀ w, Calls Tryz.prog 118 #[.string ⟨#[48]⟩, .int .i64 ((k : Int) + 1 - S.size)] w fun e w' => e = .returned (.string Z) ∧ Below w.heap.size w w') :
  Calls Tryz.prog 58 #[.int .i64 n, .int .i64 k] w fun e w' => e = .returned (.string ((Z ++ S).extract 0 1 ++ ⟨#[46]⟩ ++ (Z ++ S).extract 1 (k + 1))) ∧ Below w.heap.size w w' := by
 have h1 : decide (S.size ≤ k) = true := by simpa using hl
 have h2 : decide (0 < k) = true := by simpa using h0
 have h3 : decide (n < 0) = false := by simpa using hn
 go_enter Tryz.func58, Tryz.ntmps58
 go_wp2_with fail
 refine (size_any n _ (by omega) (by omega)).mono ?_
 rintro e w1 ⟨rfl, rfl⟩
 rw [show max n (-n) = v by omega]
 clear he
 go_wp2_with fail
 refine hI.mono ?_
 rintro e w1 ⟨rfl, hb1⟩
 go_wp2_with fail
 refine (hR _).mono ?_
 rintro e w2 ⟨rfl, hb2⟩
 have hT : (Z ++ S).size = k + 1 := by rw [ByteArray.size_append]; omega
 go_wp2_with fail
 go_region
 all_goals (try go_wp2_with fail)
 go_ret
 exact ⟨rfl, (hb1.then_ hb2).drew⟩
theorem decimal_cut0 (n v : Int) (w : World) (hv : v ≤ 1000000000000000000) (hn : 0 ≤ n) (he : v = n) (k : Nat) (h0 : 0 < k) (S : ByteArray) (hl : k < S.size) (hl2 : S.size ≤ 100)
  (hI : Calls Tryz.prog 59 #[.int .i64 v] w fun e w' => e = .returned (.string S) ∧ Below w.heap.size w w') :
  Calls Tryz.prog 58 #[.int .i64 n, .int .i64 k] w fun e w' => e = .returned (.string (S.extract 0 (S.size - k) ++ ⟨#[46]⟩ ++ S.extract (S.size - k) S.size)) ∧ Below w.heap.size w w' := by
 have h1 : decide (S.size ≤ k) = false := by simpa using hl
 have h2 : decide (0 < k) = true := by simpa using h0
 have h3 : decide (n < 0) = false := by simpa using hn
 go_enter Tryz.func58, Tryz.ntmps58
 go_wp2_with fail
 refine (size_any n _ (by omega) (by omega)).mono ?_
 rintro e w1 ⟨rfl, rfl⟩
 rw [show max n (-n) = v by omega]
 clear he
 go_wp2_with fail
 refine hI.mono ?_
 rintro e w1 ⟨rfl, hb1⟩
 go_wp2_with fail
 go_region
 all_goals (try go_wp2_with fail)
 go_ret
 exact ⟨rfl, hb1.drew⟩
theorem decimal_whole0 (n v : Int) (w : World) (hv : v ≤ 1000000000000000000) (hn : 0 ≤ n) (he : v = n) (S : ByteArray) (hl : 0 < S.size)
  (hI : Calls Tryz.prog 59 #[.int .i64 v] w fun e w' => e = .returned (.string S) ∧ Below w.heap.size w w') :
  Calls Tryz.prog 58 #[.int .i64 n, .int .i64 0] w fun e w' => e = .returned (.string S) ∧ Below w.heap.size w w' := by
 have h0 : ¬ S = ByteArray.empty := by rintro rfl; exact absurd hl (by decide)
 have h1 : decide (S.size ≤ 0) = false := by rw [decide_eq_false_iff_not]; omega
 have h1' : decide (S = ByteArray.empty) = false := by rw [decide_eq_false_iff_not]; exact h0
 have h3 : decide (n < 0) = false := by simpa using hn
 go_enter Tryz.func58, Tryz.ntmps58
 go_wp2_with fail
 refine (size_any n _ (by omega) (by omega)).mono ?_
 rintro e w1 ⟨rfl, rfl⟩
 rw [show max n (-n) = v by omega]
 clear he
 go_wp2_with fail
 refine hI.mono ?_
 rintro e w1 ⟨rfl, hb1⟩
 go_wp2_with fail
 go_ret
 exact ⟨rfl, hb1⟩
theorem decimal_pad1 (n v : Int) (w : World) (hv : v ≤ 1000000000000000000) (hn : n < 0) (he : v = -n) (k : Nat) (hk : k ≤ 9) (h0 : 0 < k) (S Z : ByteArray) (hl : S.size ≤ k) (hZ : Z.size = k + 1 - S.size)
  (hI : Calls Tryz.prog 59 #[.int .i64 v] w fun e w' => e = .returned (.string S) ∧ Below w.heap.size w w')
  (hR : ∀ w, Calls Tryz.prog 118 #[.string ⟨#[48]⟩, .int .i64 ((k : Int) + 1 - S.size)] w fun e w' => e = .returned (.string Z) ∧ Below w.heap.size w w') :
  Calls Tryz.prog 58 #[.int .i64 n, .int .i64 k] w fun e w' => e = .returned (.string (⟨#[45]⟩ ++ ((Z ++ S).extract 0 1 ++ ⟨#[46]⟩ ++ (Z ++ S).extract 1 (k + 1)))) ∧ Below w.heap.size w w' := by
 have h1 : decide (S.size ≤ k) = true := by simpa using hl
 have h2 : decide (0 < k) = true := by simpa using h0
 have h3 : decide (n < 0) = true := by simpa using hn
 go_enter Tryz.func58, Tryz.ntmps58
 go_wp2_with fail
 refine (size_any n _ (by omega) (by omega)).mono ?_
 rintro e w1 ⟨rfl, rfl⟩
 rw [show max n (-n) = v by omega]
 clear he
 go_wp2_with fail
 refine hI.mono ?_
 rintro e w1 ⟨rfl, hb1⟩
 go_wp2_with fail
 refine (hR _).mono ?_
 rintro e w2 ⟨rfl, hb2⟩
 have hT : (Z ++ S).size = k + 1 := by rw [ByteArray.size_append]; omega
 go_wp2_with fail
 go_region
 all_goals (try go_wp2_with fail)
 go_ret
 exact ⟨rfl, (hb1.then_ hb2).drew⟩
theorem decimal_cut1 (n v : Int) (w : World) (hv : v ≤ 1000000000000000000) (hn : n < 0) (he : v = -n) (k : Nat) (h0 : 0 < k) (S : ByteArray) (hl : k < S.size) (hl2 : S.size ≤ 100)
  (hI : Calls Tryz.prog 59 #[.int .i64 v] w fun e w' => e = .returned (.string S) ∧ Below w.heap.size w w') :
  Calls Tryz.prog 58 #[.int .i64 n, .int .i64 k] w fun e w' => e = .returned (.string (⟨#[45]⟩ ++ (S.extract 0 (S.size - k) ++ ⟨#[46]⟩ ++ S.extract (S.size - k) S.size))) ∧ Below w.heap.size w w' := by
 have h1 : decide (S.size ≤ k) = false := by simpa using hl
 have h2 : decide (0 < k) = true := by simpa using h0
 have h3 : decide (n < 0) = true := by simpa using hn
 go_enter Tryz.func58, Tryz.ntmps58
 go_wp2_with fail
 refine (size_any n _ (by omega) (by omega)).mono ?_
 rintro e w1 ⟨rfl, rfl⟩
 rw [show max n (-n) = v by omega]
 clear he
 go_wp2_with fail
 refine hI.mono ?_
 rintro e w1 ⟨rfl, hb1⟩
 go_wp2_with fail
 go_region
 all_goals (try go_wp2_with fail)
 go_ret
 exact ⟨rfl, hb1.drew⟩
theorem decimal_whole1 (n v : Int) (w : World) (hv : v ≤ 1000000000000000000) (hn : n < 0) (he : v = -n) (S : ByteArray) (hl : 0 < S.size) (hl2 : S.size ≤ 100)
  (hI : Calls Tryz.prog 59 #[.int .i64 v] w fun e w' => e = .returned (.string S) ∧ Below w.heap.size w w') :
  Calls Tryz.prog 58 #[.int .i64 n, .int .i64 0] w fun e w' => e = .returned (.string (⟨#[45]⟩ ++ S)) ∧ Below w.heap.size w w' := by
 have h0 : ¬ S = ByteArray.empty := by rintro rfl; exact absurd hl (by decide)
 have h1 : decide (S.size ≤ 0) = false := by rw [decide_eq_false_iff_not]; omega
 have h1' : decide (S = ByteArray.empty) = false := by rw [decide_eq_false_iff_not]; exact h0
 have h3 : decide (n < 0) = true := by simpa using hn
 go_enter Tryz.func58, Tryz.ntmps58
 go_wp2_with fail
 refine (size_any n _ (by omega) (by omega)).mono ?_
 rintro e w1 ⟨rfl, rfl⟩
 rw [show max n (-n) = v by omega]
 clear he
 go_wp2_with fail
 refine hI.mono ?_
 rintro e w1 ⟨rfl, hb1⟩
 go_wp2_with fail
 go_ret
 exact ⟨rfl, hb1⟩
def decZ (n : Int) (k : Nat) : List UInt8 := (if n < 0 then [45] else []) ++ Num.dec n.natAbs k
theorem mk_append (a b : List UInt8) : (⟨a.toArray⟩ : ByteArray) ++ ⟨b.toArray⟩ = ⟨(a ++ b).toArray⟩ := by
 rw [ByteArray.mk_append_mk]
theorem cut_left (a b : List UInt8) (i : Nat) (h : a.length = i) : (⟨(a ++ b).toArray⟩ : ByteArray).extract 0 i = ⟨a.toArray⟩ := by
 apply ByteArray.ext
 rw [ByteArray.data_extract]
 show (a ++ b).toArray.extract 0 i = a.toArray
 subst h
 simp
theorem cut_right (a b : List UInt8) (i j : Nat) (h : a.length = i) (h' : a.length + b.length = j) : (⟨(a ++ b).toArray⟩ : ByteArray).extract i j = ⟨b.toArray⟩ := by
 apply ByteArray.ext
 rw [ByteArray.data_extract]
 show (a ++ b).toArray.extract i j = b.toArray
 subst h h'
 simp
theorem size_mk (a : List UInt8) : (⟨a.toArray⟩ : ByteArray).size = a.length := List.size_toArray
theorem decimal_z (n : Int) (k : Nat) (w : World) (h0 : -1000000000000000000 ≤ n) (h1 : n ≤ 1000000000000000000) (hk : k ≤ 9) (ht : Tab w) :
  Calls Tryz.prog 58 #[.int .i64 n, .int .i64 k] w fun e w' => e = .returned (.string ⟨(decZ n k).toArray⟩) ∧ Below w.heap.size w w' := by
 have hI := itoa_any (n.natAbs : Int) w (by omega) (by omega) ht
 rw [itoa_nat] at hI
 have hs := size_mk (Lib.decDigits n.natAbs)
 have hle := Lib.itoa_length_le (n.natAbs : Int) (by omega) (by omega)
 rw [itoa_nat] at hle
 have hne := Num.dec_len n.natAbs
 have hp := Num.pad_eq k n.natAbs
 have hdl := Num.digs_len k n.natAbs
 have key : (decZ n k) = if n < 0 then [45] ++ Num.dec n.natAbs k else Num.dec n.natAbs k := by unfold decZ; split <;> simp
 have sg : ∀ R : List UInt8, Num.dec n.natAbs k = R → (n < 0 → (⟨(decZ n k).toArray⟩ : ByteArray) = ⟨#[45]⟩ ++ ⟨R.toArray⟩) ∧ (¬ n < 0 → (⟨(decZ n k).toArray⟩ : ByteArray) = ⟨R.toArray⟩) := by
  intro R hR
  rw [key, hR]
  refine ⟨fun h => ?_, fun h => ?_⟩
  ·rw [if_pos h]; exact (mk_append [45] R).symm
  ·rw [if_neg h]
 by_cases k0 : k = 0
 ·subst k0
  obtain ⟨s1, s2⟩ := sg _ (by unfold Num.dec; rw [if_pos rfl])
  by_cases hn : n < 0
  ·rw [s1 hn]
   exact decimal_whole1 n n.natAbs w (by omega) hn (by omega) _ (by omega) (by omega) hI
  ·rw [s2 hn]
   exact decimal_whole0 n n.natAbs w (by omega) (by omega) (by omega) _ (by omega) hI
 have hd : Num.dec n.natAbs k = Lib.decDigits (n.natAbs / 10 ^ k) ++ [46] ++ Num.digs k n.natAbs := by unfold Num.dec; rw [if_neg k0]
 obtain ⟨s1, s2⟩ := sg _ hd
 by_cases hl : (Lib.decDigits n.natAbs).length ≤ k
 ·rw [if_pos hl] at hp
  have hR := fun w => repeat_any (k + 1 - (Lib.decDigits n.natAbs).length) w (by omega)
  rw [show ((k + 1 - (Lib.decDigits n.natAbs).length : Nat) : Int) = (k : Int) + 1 - (⟨(Lib.decDigits n.natAbs).toArray⟩ : ByteArray).size by rw [hs]; omega] at hR
  have hz : (⟨(Num.zeros (k + 1 - (Lib.decDigits n.natAbs).length)).toArray⟩ : ByteArray).size = k + 1 - (⟨(Lib.decDigits n.natAbs).toArray⟩ : ByteArray).size := by rw [hs, size_mk]; exact List.length_replicate
  have hlen : (Lib.decDigits (n.natAbs / 10 ^ k)).length = 1 := by
   have := congrArg List.length hp
   rw [List.length_append, List.length_append, hdl, Num.zeros, List.length_replicate] at this
   omega
  have e : (((⟨(Num.zeros (k + 1 - (Lib.decDigits n.natAbs).length)).toArray⟩ : ByteArray) ++ ⟨(Lib.decDigits n.natAbs).toArray⟩).extract 0 1 ++ ⟨#[46]⟩ ++ ((⟨(Num.zeros (k + 1 - (Lib.decDigits n.natAbs).length)).toArray⟩ : ByteArray) ++ ⟨(Lib.decDigits n.natAbs).toArray⟩).extract 1 (k + 1)) = ⟨(Lib.decDigits (n.natAbs / 10 ^ k) ++ [46] ++ Num.digs k n.natAbs).toArray⟩ := by
   rw [mk_append (Num.zeros (k + 1 - (Lib.decDigits n.natAbs).length)) (Lib.decDigits n.natAbs), hp, cut_left _ _ _ hlen, cut_right _ _ _ _ hlen (by omega), ← mk_append (Lib.decDigits (n.natAbs / 10 ^ k) ++ [46]) (Num.digs k n.natAbs), ← mk_append (Lib.decDigits (n.natAbs / 10 ^ k)) [46]]
  by_cases hn : n < 0
  ·rw [s1 hn, ← e]
   exact decimal_pad1 n n.natAbs w (by omega) hn (by omega) k hk (by omega) _ _ (by omega) hz hI hR
  ·rw [s2 hn, ← e]
   exact decimal_pad0 n n.natAbs w (by omega) (by omega) (by omega) k hk (by omega) _ _ (by omega) hz hI hR
 ·rw [if_neg hl, List.nil_append] at hp
  have hlen : (Lib.decDigits (n.natAbs / 10 ^ k)).length = (⟨(Lib.decDigits n.natAbs).toArray⟩ : ByteArray).size - k := by
   have := congrArg List.length hp
   rw [List.length_append, hdl] at this
   omega
  have e : ((⟨(Lib.decDigits n.natAbs).toArray⟩ : ByteArray).extract 0 ((⟨(Lib.decDigits n.natAbs).toArray⟩ : ByteArray).size - k) ++ ⟨#[46]⟩ ++ (⟨(Lib.decDigits n.natAbs).toArray⟩ : ByteArray).extract ((⟨(Lib.decDigits n.natAbs).toArray⟩ : ByteArray).size - k) (⟨(Lib.decDigits n.natAbs).toArray⟩ : ByteArray).size) = ⟨(Lib.decDigits (n.natAbs / 10 ^ k) ++ [46] ++ Num.digs k n.natAbs).toArray⟩ := by
   have hj : (Lib.decDigits (n.natAbs / 10 ^ k)).length + (Num.digs k n.natAbs).length = (⟨(Lib.decDigits n.natAbs).toArray⟩ : ByteArray).size := by omega
   generalize (⟨(Lib.decDigits n.natAbs).toArray⟩ : ByteArray).size = z at *
   rw [hp, cut_left _ _ _ hlen, cut_right _ _ _ _ hlen hj, ← mk_append (Lib.decDigits (n.natAbs / 10 ^ k) ++ [46]) (Num.digs k n.natAbs), ← mk_append (Lib.decDigits (n.natAbs / 10 ^ k)) [46]]
  by_cases hn : n < 0
  ·rw [s1 hn, ← e]
   exact decimal_cut1 n n.natAbs w (by omega) hn (by omega) k (by omega) _ (by omega) (by omega) hI
  ·rw [s2 hn, ← e]
   exact decimal_cut0 n n.natAbs w (by omega) (by omega) (by omega) k (by omega) _ (by omega) (by omega) hI
theorem notation_k (a b : Int) (k : Nat) (P v q m : Int) (w : World) (ha : -1000000000 ≤ a) (ha2 : a ≤ 1000000000) (hb1 : 1 ≤ b) (hb2 : b ≤ 1000000000) (hk : k ≤ 9) (h0 : 0 < k) (p1 : 1 ≤ P) (p2 : P ≤ 1000000000)
  (hp : ∀ w, Calls Tryz.prog 91 #[.int .i64 k] w fun e w' => e = .returned (.int .i64 P) ∧ w = w')
  (hv : max a (-a) * (P / b) = v) (v0 : 0 ≤ v) (v1 : v ≤ 1000000000000000000) (hq : v / P = q) (hm : v % P = m) (D F : List UInt8) (hD : D.length ≤ k) (hF : F.length ≤ 100)
  (hI : ∀ w, Calls Tryz.prog 20 #[.int .i64 q] w fun e w' => e = .returned (.string ⟨F.toArray⟩) ∧ Below w.heap.size w w')
  (hJ : ∀ w, Calls Tryz.prog 20 #[.int .i64 m] w fun e w' => e = .returned (.string ⟨D.toArray⟩) ∧ Below w.heap.size w w') :
  Calls Tryz.prog 92 #[.agg #[.int .i64 a, .int .i64 b], .int .i64 k] w fun e w' => e = .returned (.string (if a < 0 then ⟨#[45]⟩ ++ (⟨F.toArray⟩ ++ ⟨#[46]⟩ ++ ⟨(Num.zeros (k - D.length) ++ D).toArray⟩) else ⟨F.toArray⟩ ++ ⟨#[46]⟩ ++ ⟨(Num.zeros (k - D.length) ++ D).toArray⟩)) ∧ Below w.heap.size w w' := by
 have hz : (b == 0) = false := by simp; omega
 have hz2 : (P == 0) = false := by simp; omega
 have hA : ∀ w, Calls Tryz.prog 147 #[.int .i64 a] w fun e w' => e = .returned (.int .i64 (max a (-a))) ∧ w = w' := fun w => abs_any a w (by omega) (by omega)
 have q0 : 0 ≤ P / b := Int.ediv_nonneg (by omega) (by omega)
 have q1 : P / b ≤ P := Int.ediv_le_self _ (by omega)
 have h2 : decide (0 < k) = true := by simpa using h0
 obtain ⟨f0, f1⟩ := (Known.made w 50 #[.int .i64 a, .int .i64 b]).two
 have hlt := (Known.made w 50 #[.int .i64 a, .int .i64 b]).lt
 have hb := below_new0 w (.cells #[.int .i64 a, .int .i64 b] 50)
 have KN := Known.made w 50 #[.int .i64 a, .int .i64 b]
 generalize hmx : max a (-a) = x at *
 have ht1 : P.tdiv b = P / b := Int.tdiv_eq_ediv_of_nonneg (by omega)
 have ht2 : v.tdiv P = q := by rw [Int.tdiv_eq_ediv_of_nonneg (by omega), hq]
 have ht3 : v.tmod P = m := by rw [Int.tmod_eq_emod_of_nonneg (by omega), hm]
 have q2 : 0 ≤ q := by rw [← hq]; exact Int.ediv_nonneg v0 (by omega)
 have q3 : q ≤ v := by rw [← hq]; exact Int.ediv_le_self _ v0
 have m2 : 0 ≤ m := by rw [← hm]; exact Int.emod_nonneg _ (by omega)
 have m3 : m < P := by rw [← hm]; exact Int.emod_lt_of_pos _ (by omega)
 clear hq hm
 go_enter Tryz.func92, Tryz.ntmps92
 go_wp2_with fail
 refine wp_region_gr (by kernel_rfl) (by kernel_rfl) ?_
 repeat (go_big_quiet_step (first | (go_at_call 147; exact gr_same (hA _)) | (go_at_call 91; exact gr_same (hp _))))
 refine wpQuiet_nil ?_
 intro _ hw'; obtain ⟨w5, hw''⟩ := hw'; subst hw''
 have hB := gr_below (w.alloc (.cells #[.int .i64 a, .int .i64 b] 50)) w5
 generalize gr (w.alloc (.cells #[.int .i64 a, .int .i64 b] 50)) w5 = w1 at *
 replace hb := hb.then_ hB
 replace KN := KN.on hB
 go_wp2_with fail
 refine (hp _).mono ?_
 rintro e w2 ⟨rfl, rfl⟩
 go_wp2_with fail
 refine (hI _).mono ?_
 rintro e w2 ⟨rfl, hb2⟩
 replace hb := hb.then_ hb2
 replace KN := KN.on hb2
 go_wp2_with fail
 refine (hp _).mono ?_
 rintro e w3 ⟨rfl, rfl⟩
 go_wp2_with fail
 refine (hJ _).mono ?_
 rintro e w3 ⟨rfl, hb3⟩
 replace hb := hb.then_ hb3
 replace KN := KN.on hb3
 obtain ⟨g0, g1⟩ := KN.two
 clear f0 f1 hI hJ hp hA hv ht1 ht2 ht3
 go_wp2_with fail
 go_loopg [7] (k + 1) (fun g s7 wr => ∃ j : Nat, j + D.length ≤ k ∧ k - (j + D.length) < g ∧ s7 = .string ⟨(Num.zeros j ++ D).toArray⟩ ∧ w3 = wr)
 case atStart => exact ⟨0, by omega, by omega, by simp [Num.zeros], rfl⟩
 case round =>
  obtain ⟨j, hj, hg, rfl, rfl⟩ := hrel
  have hzl : (Num.zeros j).length = j := List.length_replicate
  by_cases hlt : j + D.length < k
  ·have h4 : decide (j + D.length < k) = true := by simpa using hlt
   go_wp2_with fail
   go_roundg (k - (j + 1 + D.length) + 1)
   case measure => omega
   case rel => exact ⟨j + 1, by omega, by omega, by rw [mk_append [48] (Num.zeros j ++ D)]; rfl, rfl⟩
  ·have h4 : decide (j + D.length < k) = false := by simpa using hlt
   obtain rfl : j = k - D.length := by omega
   by_cases hn : a < 0
   ·have h3 : decide (a < 0) = true := by simpa using hn
    go_wp2_with fail
    go_ret
    exact ⟨by first | rfl | (rw [if_pos hn]; rfl) | simp [hn, results], hb⟩
   ·have h3 : decide (a < 0) = false := by simpa using hn
    go_wp2_with fail
    go_ret
    exact ⟨by first | rfl | (rw [if_neg hn]; rfl) | simp [hn, results], hb⟩
theorem notation_0 (a b : Int) (P v q : Int) (w : World) (ha : -1000000000 ≤ a) (ha2 : a ≤ 1000000000) (hb1 : 1 ≤ b) (hb2 : b ≤ 1000000000) (p1 : 1 ≤ P) (p2 : P ≤ 1000000000)
  (hp : ∀ w, Calls Tryz.prog 91 #[.int .i64 0] w fun e w' => e = .returned (.int .i64 P) ∧ w = w')
  (hv : max a (-a) * (P / b) = v) (v0 : 0 ≤ v) (v1 : v ≤ 1000000000000000000) (hq : v / P = q) (F : List UInt8) (hF : F.length ≤ 100)
  (hI : ∀ w, Calls Tryz.prog 20 #[.int .i64 q] w fun e w' => e = .returned (.string ⟨F.toArray⟩) ∧ Below w.heap.size w w') :
  Calls Tryz.prog 92 #[.agg #[.int .i64 a, .int .i64 b], .int .i64 0] w fun e w' => e = .returned (.string (if a < 0 then ⟨#[45]⟩ ++ ⟨F.toArray⟩ else ⟨F.toArray⟩)) ∧ Below w.heap.size w w' := by
 have hz : (b == 0) = false := by simp; omega
 have hz2 : (P == 0) = false := by simp; omega
 have hA : ∀ w, Calls Tryz.prog 147 #[.int .i64 a] w fun e w' => e = .returned (.int .i64 (max a (-a))) ∧ w = w' := fun w => abs_any a w (by omega) (by omega)
 have q0 : 0 ≤ P / b := Int.ediv_nonneg (by omega) (by omega)
 have q1 : P / b ≤ P := Int.ediv_le_self _ (by omega)
 obtain ⟨f0, f1⟩ := (Known.made w 50 #[.int .i64 a, .int .i64 b]).two
 have hlt := (Known.made w 50 #[.int .i64 a, .int .i64 b]).lt
 have hb := below_new0 w (.cells #[.int .i64 a, .int .i64 b] 50)
 have KN := Known.made w 50 #[.int .i64 a, .int .i64 b]
 generalize hmx : max a (-a) = x at *
 have ht1 : P.tdiv b = P / b := Int.tdiv_eq_ediv_of_nonneg (by omega)
 have ht2 : v.tdiv P = q := by rw [Int.tdiv_eq_ediv_of_nonneg (by omega), hq]
 have q2 : 0 ≤ q := by rw [← hq]; exact Int.ediv_nonneg v0 (by omega)
 have q3 : q ≤ v := by rw [← hq]; exact Int.ediv_le_self _ v0
 clear hq
 go_enter Tryz.func92, Tryz.ntmps92
 go_wp2_with fail
 refine wp_region_gr (by kernel_rfl) (by kernel_rfl) ?_
 repeat (go_big_quiet_step (first | (go_at_call 147; exact gr_same (hA _)) | (go_at_call 91; exact gr_same (hp _))))
 refine wpQuiet_nil ?_
 intro _ hw'; obtain ⟨w5, hw''⟩ := hw'; subst hw''
 have hB := gr_below (w.alloc (.cells #[.int .i64 a, .int .i64 b] 50)) w5
 generalize gr (w.alloc (.cells #[.int .i64 a, .int .i64 b] 50)) w5 = w1 at *
 replace hb := hb.then_ hB
 replace KN := KN.on hB
 go_wp2_with fail
 refine (hp _).mono ?_
 rintro e w2 ⟨rfl, rfl⟩
 go_wp2_with fail
 refine (hI _).mono ?_
 rintro e w2 ⟨rfl, hb2⟩
 replace hb := hb.then_ hb2
 replace KN := KN.on hb2
 obtain ⟨g0, g1⟩ := KN.two
 clear f0 f1 hI hp hA hv ht1 ht2
 by_cases hn : a < 0
 ·have h3 : decide (a < 0) = true := by simpa using hn
  go_wp2_with fail
  go_ret
  exact ⟨by first | rfl | (rw [if_pos hn]; rfl) | simp [hn, results], hb⟩
 ·have h3 : decide (a < 0) = false := by simpa using hn
  go_wp2_with fail
  go_ret
  exact ⟨by first | rfl | (rw [if_neg hn]; rfl) | simp [hn, results], hb⟩
theorem notation_any (a b : Int) (k : Nat) (w : World) (ha : -1000000000 ≤ a) (ha2 : a ≤ 1000000000) (hb1 : 1 ≤ b) (hb2 : b ≤ 1000000000) (hk : k ≤ 9) (ht : 1 ≤ (10 : Int) ^ k / b) :
  Calls Tryz.prog 92 #[.agg #[.int .i64 a, .int .i64 b], .int .i64 k] w fun e w' => e = .returned (.string ⟨(decZ (a * ((10 : Int) ^ k / b)) k).toArray⟩) ∧ Below w.heap.size w w' := by
 obtain ⟨p1, p2⟩ := pow_bd k hk
 have hp := fun w => powerRef_any k w hk
 have hc : ((10 : Int) ^ k) = ((10 ^ k : Nat) : Int) := by simp
 have t2 : (10 : Int) ^ k / b ≤ (10 : Int) ^ k := Int.ediv_le_self _ (by omega)
 generalize ht' : (10 : Int) ^ k / b = t at *
 have sg : a * t < 0 ↔ a < 0 := by
  constructor
  ·intro h
   rcases Int.lt_or_le a 0 with h' | h'
   ·exact h'
   ·have := Int.mul_nonneg h' (show 0 ≤ t by omega); omega
  ·exact fun h => Int.mul_neg_of_neg_of_pos h (by omega)
 obtain ⟨l1, l2⟩ := mul_bd ha ha2 (show -1000000000 ≤ t by omega) (show t ≤ 1000000000 by omega)
 have hv : max a (-a) * t = (((a * t).natAbs : Nat) : Int) := by
  rcases Int.lt_or_le a 0 with h | h
  ·rw [show max a (-a) = -a by omega, Int.neg_mul]
   have := sg.2 h
   omega
  ·rw [show max a (-a) = a by omega]
   have := Int.mul_nonneg h (show 0 ≤ t by omega)
   omega
 have hdec : decZ (a * t) k = (if a < 0 then [45] else []) ++ Num.dec (a * t).natAbs k := by
  unfold decZ
  by_cases h : a < 0
  ·rw [if_pos h, if_pos (sg.2 h)]
  ·rw [if_neg h, if_neg (fun h' => h (sg.1 h'))]
 have hvl : (a * t).natAbs ≤ 1000000000000000000 := by omega
 generalize (a * t).natAbs = v at *
 have hq : (v : Int) / (10 : Int) ^ k = ((v / 10 ^ k : Nat) : Int) := by rw [hc]; exact (Int.natCast_ediv _ _).symm
 have hm : (v : Int) % (10 : Int) ^ k = ((v % 10 ^ k : Nat) : Int) := by rw [hc]; exact (Int.natCast_emod _ _).symm
 have hq2 : v / 10 ^ k ≤ v := Nat.div_le_self _ _
 have hm2 : v % 10 ^ k ≤ v := Nat.mod_le _ _
 have n1 : (0 : Int) ≤ ((v / 10 ^ k : Nat) : Int) := Int.natCast_nonneg _
 have n2 : (0 : Int) ≤ ((v % 10 ^ k : Nat) : Int) := Int.natCast_nonneg _
 have n3 : ((v / 10 ^ k : Nat) : Int) ≤ 1000000000000000000 := Int.le_trans (Int.ofNat_le.2 hq2) (by omega)
 have n4 : ((v % 10 ^ k : Nat) : Int) ≤ 1000000000000000000 := Int.le_trans (Int.ofNat_le.2 hm2) (by omega)
 have hI := fun w => decimal_any ((v / 10 ^ k : Nat) : Int) w (Int.le_trans (by decide) n1) n3
 have hJ := fun w => decimal_any ((v % 10 ^ k : Nat) : Int) w (Int.le_trans (by decide) n2) n4
 rw [itoa_nat] at hI hJ
 have hle := Lib.itoa_length_le ((v / 10 ^ k : Nat) : Int) (Int.le_trans (by decide) n1) (Int.le_trans n3 (by decide))
 rw [itoa_nat] at hle
 by_cases k0 : k = 0
 ·subst k0
  have := notation_0 a b ((10 : Int) ^ 0) v ((v / 10 ^ 0 : Nat) : Int) w ha ha2 hb1 hb2 p1 p2 hp (by rw [ht']; exact hv) (by omega) (by omega) hq (Lib.decDigits (v / 10 ^ 0)) (by omega) hI
  refine this.mono ?_
  rintro e w' ⟨rfl, hb⟩
  refine ⟨?_, hb⟩
  rw [hdec]
  unfold Num.dec
  rw [if_pos rfl, Nat.pow_zero, Nat.div_one]
  by_cases h : a < 0
  ·rw [if_pos h, if_pos h, ← mk_append]
  ·rw [if_neg h, if_neg h, List.nil_append]
 ·have hlt : v % 10 ^ k < 10 ^ k := Nat.mod_lt _ (Nat.pow_pos (by omega))
  obtain ⟨g1, g2⟩ := Num.fill_eq (k - 1) (v % 10 ^ k) (by rw [show k - 1 + 1 = k by omega]; exact hlt)
  rw [show k - 1 + 1 = k by omega] at g1 g2
  have := notation_k a b k ((10 : Int) ^ k) v ((v / 10 ^ k : Nat) : Int) ((v % 10 ^ k : Nat) : Int) w ha ha2 hb1 hb2 hk (by omega) p1 p2 hp (by rw [ht']; exact hv) (by omega) (by omega) hq hm (Lib.decDigits (v % 10 ^ k)) (Lib.decDigits (v / 10 ^ k)) g1 (by omega) hI hJ
  rw [g2, Num.digs_mod] at this
  refine this.mono ?_
  rintro e w' ⟨rfl, hb⟩
  refine ⟨?_, hb⟩
  rw [hdec]
  unfold Num.dec
  rw [if_neg k0]
  by_cases h : a < 0
  ·rw [if_pos h, if_pos h, ← mk_append [45], ← mk_append (Lib.decDigits (v / 10 ^ k) ++ [46]), ← mk_append (Lib.decDigits (v / 10 ^ k)) [46]]
  ·rw [if_neg h, if_neg h, List.nil_append, ← mk_append (Lib.decDigits (v / 10 ^ k) ++ [46]), ← mk_append (Lib.decDigits (v / 10 ^ k)) [46]]
theorem least (p : Nat → Prop) [DecidablePred p] : ∀ n, (∃ k, k ≤ n ∧ p k) → ∃ k, k ≤ n ∧ p k ∧ ∀ j, j < k → ¬ p j := by
 intro n
 induction n with
 | zero => rintro ⟨k, hk, h⟩; exact ⟨k, hk, h, fun j hj => by omega⟩
 | succ n ih =>
   rintro ⟨k, hk, h⟩
   by_cases h' : ∃ k, k ≤ n ∧ p k
   ·obtain ⟨k, h1, h2, h3⟩ := ih h'
    exact ⟨k, by omega, h2, h3⟩
   ·exact ⟨k, hk, h, fun j hj hp => h' ⟨j, by omega, hp⟩⟩
theorem formatP_hit (a b : Int) (k : Nat) (w : World) (v1 : Num.val a b = true) (hk : k ≤ 9) (hit : (10 : Int) ^ k % b = 0) (hl : ∀ j, j < k → ¬ (10 : Int) ^ j % b = 0) (ht : Tab w) :
  Calls Tryz.prog 27 #[.agg #[.int .i64 a, .int .i64 b]] w fun e w' => e = .returned (.string ⟨(decZ (a * ((10 : Int) ^ k / b)) k).toArray⟩) ∧ Below w.heap.size w w' := by
 obtain ⟨k1, k2, k3, k4, k5⟩ := Num.val_iff.1 v1
 have hz : (b == 0) = false := by simp; omega
 obtain ⟨p1, p2⟩ := pow_bd k hk
 have t0 : 0 ≤ (10 : Int) ^ k / b := Int.ediv_nonneg (by omega) (by omega)
 have t2 : (10 : Int) ^ k / b ≤ (10 : Int) ^ k := Int.ediv_le_self _ (by omega)
 obtain ⟨l1, l2⟩ := mul_bd k1 k2 (show -1000000000 ≤ (10 : Int) ^ k / b by omega) (show (10 : Int) ^ k / b ≤ 1000000000 by omega)
 have hD := fun w ht => decimal_z (a * ((10 : Int) ^ k / b)) k w (by omega) (by omega) hk ht
 have ht1 : ((10 : Int) ^ k).tdiv b = (10 : Int) ^ k / b := Int.tdiv_eq_ediv_of_nonneg (by omega)
 have ht3 : ((10 : Int) ^ k).tmod b = 0 := by rw [Int.tmod_eq_emod_of_nonneg (by omega), hit]
 generalize (10 : Int) ^ k / b = t at *
 generalize hn : a * t = n at *
 go_enter Tryz.func27, Tryz.ntmps27
 go_wp2_with fail
 refine (valid_any a b _ (by omega) (by omega)).mono ?_
 rintro e w1 ⟨rfl, hb1⟩
 rw [v1]
 go_wp2_with fail
 have KN := (Known.made w 50 #[.int .i64 a, .int .i64 b]).on hb1
 obtain ⟨f0, f1⟩ := KN.two
 have hlt := KN.lt
 have hb := (below_new0 w (.cells #[.int .i64 a, .int .i64 b] 50)).then_ hb1
 have hT : Tab w1 := ht.on hb
 clear KN hb1 v1
 go_loopg [3] (k + 1) (fun g s3 wr => ∃ j : Nat, j ≤ k ∧ k - j < g ∧ s3 = .int .i64 j ∧ w1 = wr)
 case atStart => exact ⟨0, by omega, by omega, rfl, rfl⟩
 case round =>
  obtain ⟨j, hj, hg, rfl, rfl⟩ := hrel
  by_cases h : j < k
  ·have hm := hl j h
   obtain ⟨q1, q2⟩ := pow_bd j (by omega)
   have hp : ∀ w, Calls Tryz.prog 57 #[.int .i64 j] w fun e w' => e = .returned (.int .i64 (10 ^ j)) ∧ w = w' := fun w => power_any j w (by omega)
   have hm2 : (((10 : Int) ^ j).tmod b == 0) = false := by rw [Int.tmod_eq_emod_of_nonneg (by omega)]; simpa using hm
   have hm3 : ((10 : Int) ^ j % b == 0) = false := by simpa using hm
   have hm4 : 0 ≤ (10 : Int) ^ j % b := Int.emod_nonneg _ (by omega)
   have hm5 : (10 : Int) ^ j % b < b := Int.emod_lt_of_pos _ (by omega)
   clear hl hD hm
   generalize (10 : Int) ^ j = P at *
   go_wp2_with fail
   refine (hp _).mono ?_
   rintro e w2 ⟨rfl, rfl⟩
   go_wp2_with fail
   go_roundg (k - (j + 1) + 1)
   case measure => omega
   case rel => exact ⟨j + 1, by omega, by omega, rfl, rfl⟩
  ·obtain rfl : j = k := by omega
   have hp : ∀ w, Calls Tryz.prog 57 #[.int .i64 j] w fun e w' => e = .returned (.int .i64 (10 ^ j)) ∧ w = w' := fun w => power_any j w (by omega)
   clear hl
   generalize (10 : Int) ^ j = P at *
   go_wp2_with fail
   refine (hp _).mono ?_
   rintro e w2 ⟨rfl, rfl⟩
   go_wp2_with fail
   refine wp_region_gr (by kernel_rfl) (by kernel_rfl) ?_
   repeat (go_big_quiet_step ((go_at_call 58; exact gr_call (hD _ (hT.on (gr_below _ _))))))
   refine wpQuiet_nil ?_
   intro _ hw'; obtain ⟨w5, hw''⟩ := hw'; subst hw''
   have hB := gr_below w1 w5
   generalize gr w1 w5 = w4 at *
   go_wp2
   go_ret
   exact ⟨rfl, hb.then_ hB⟩
theorem formatP_none (a b : Int) (w : World) (v1 : Num.val a b = true) (hl : ∀ j, j ≤ 9 → ¬ (10 : Int) ^ j % b = 0) (ht : Tab w) :
  Calls Tryz.prog 27 #[.agg #[.int .i64 a, .int .i64 b]] w fun e w' => e = .returned (.string ⟨(Lib.itoa a ++ [47] ++ Lib.itoa b).toArray⟩) ∧ Below w.heap.size w w' := by
 obtain ⟨k1, k2, k3, k4, k5⟩ := Num.val_iff.1 v1
 have hz : (b == 0) = false := by simp; omega
 have hI := fun w ht => itoa_any a w (by omega) (by omega) ht
 have hJ := fun w ht => itoa_any b w (by omega) (by omega) ht
 have e1 : (⟨(Lib.itoa a ++ [47] ++ Lib.itoa b).toArray⟩ : ByteArray) = ⟨(Lib.itoa a).toArray⟩ ++ ⟨#[47]⟩ ++ ⟨(Lib.itoa b).toArray⟩ := by rw [← mk_append (Lib.itoa a ++ [47]), ← mk_append (Lib.itoa a) [47]]
 rw [e1]
 have s1 : (⟨(Lib.itoa a).toArray⟩ : ByteArray).size ≤ 21 := by rw [size_mk]; exact Lib.itoa_length_le a (by omega) (by omega)
 have s2 : (⟨(Lib.itoa b).toArray⟩ : ByteArray).size ≤ 21 := by rw [size_mk]; exact Lib.itoa_length_le b (by omega) (by omega)
 clear e1
 generalize (⟨(Lib.itoa a).toArray⟩ : ByteArray) = A at *
 generalize (⟨(Lib.itoa b).toArray⟩ : ByteArray) = B at *
 go_enter Tryz.func27, Tryz.ntmps27
 go_wp2_with fail
 refine (valid_any a b _ (by omega) (by omega)).mono ?_
 rintro e w1 ⟨rfl, hb1⟩
 rw [v1]
 go_wp2_with fail
 have KN := (Known.made w 50 #[.int .i64 a, .int .i64 b]).on hb1
 obtain ⟨f0, f1⟩ := KN.two
 have hlt := KN.lt
 have hb := (below_new0 w (.cells #[.int .i64 a, .int .i64 b] 50)).then_ hb1
 have hT : Tab w1 := ht.on hb
 clear KN hb1 v1
 go_loopg [3] 11 (fun g s3 wr => ∃ j : Nat, j ≤ 10 ∧ 10 - j < g ∧ s3 = .int .i64 j ∧ w1 = wr)
 case atStart => exact ⟨0, by omega, by omega, rfl, rfl⟩
 case round =>
  obtain ⟨j, hj, hg, rfl, rfl⟩ := hrel
  by_cases h : j ≤ 9
  ·have hm := hl j h
   obtain ⟨q1, q2⟩ := pow_bd j (by omega)
   have hp : ∀ w, Calls Tryz.prog 57 #[.int .i64 j] w fun e w' => e = .returned (.int .i64 (10 ^ j)) ∧ w = w' := fun w => power_any j w (by omega)
   have hm2 : (((10 : Int) ^ j).tmod b == 0) = false := by rw [Int.tmod_eq_emod_of_nonneg (by omega)]; simpa using hm
   have hm3 : ((10 : Int) ^ j % b == 0) = false := by simpa using hm
   have hm4 : 0 ≤ (10 : Int) ^ j % b := Int.emod_nonneg _ (by omega)
   have hm5 : (10 : Int) ^ j % b < b := Int.emod_lt_of_pos _ (by omega)
   clear hl hI hJ hm
   generalize (10 : Int) ^ j = P at *
   go_wp2_with fail
   refine (hp _).mono ?_
   rintro e w2 ⟨rfl, rfl⟩
   go_wp2_with fail
   go_roundg (10 - (j + 1) + 1)
   case measure => omega
   case rel => exact ⟨j + 1, by omega, by omega, rfl, rfl⟩
  ·obtain rfl : j = 10 := by omega
   clear hl
   go_wp2_with fail
   refine wp_region_gr (by kernel_rfl) (by kernel_rfl) ?_
   repeat (go_big_quiet_step (first | (go_at_call 59; with_reducible exact gr_call (hI _ (hT.on (gr_below _ _)))) | (go_at_call 59; with_reducible exact gr_call (hJ _ (hT.on (gr_below _ _))))))
   refine wpQuiet_nil ?_
   intro _ hw'; obtain ⟨w5, hw''⟩ := hw'; subst hw''
   have hB := gr_below w1 w5
   generalize gr w1 w5 = w4 at *
   go_wp2
   go_ret
   exact ⟨rfl, hb.then_ hB⟩
theorem formatR_hit (a b : Int) (k : Nat) (w : World) (v1 : Num.val a b = true) (hk : k ≤ 9) (hit : (10 : Int) ^ k % b = 0) (hl : ∀ j, j < k → ¬ (10 : Int) ^ j % b = 0) (h1 : 1 ≤ (10 : Int) ^ k / b) :
  Calls Tryz.prog 41 #[.agg #[.int .i64 a, .int .i64 b]] w fun e w' => e = .returned (.string ⟨(decZ (a * ((10 : Int) ^ k / b)) k).toArray⟩) ∧ Below w.heap.size w w' := by
 obtain ⟨k1, k2, k3, k4, k5⟩ := Num.val_iff.1 v1
 have hz : (b == 0) = false := by simp; omega
 have hN := fun w => notation_any a b k w k1 k2 k3 k4 hk h1
 generalize decZ (a * ((10 : Int) ^ k / b)) k = R at *
 go_enter Tryz.func41, Tryz.ntmps41
 go_wp2_with fail
 refine (validRef_any a b _ (by omega) (by omega)).mono ?_
 rintro e w1 ⟨rfl, hb1⟩
 rw [v1]
 go_wp2_with fail
 have KN := (Known.made w 50 #[.int .i64 a, .int .i64 b]).on hb1
 have hb := (below_new0 w (.cells #[.int .i64 a, .int .i64 b] 50)).then_ hb1
 clear hb1 v1
 go_loopg [3] (k + 1) (fun g s3 wr => ∃ (j : Nat) (wq : World), j ≤ k ∧ k - j < g ∧ s3 = .int .i64 j ∧ Below w1.heap.size w1 wq ∧ wq = wr)
 case atStart => exact ⟨0, _, by omega, by omega, rfl, Below.refl _ _, rfl⟩
 case round =>
  obtain ⟨j, wr, hj, hg, rfl, hbr, rfl⟩ := hrel
  replace hb := hb.then_ hbr
  replace KN := KN.on hbr
  obtain ⟨f0, f1⟩ := KN.two
  have hlt := KN.lt
  obtain ⟨q1, q2⟩ := pow_bd j (by omega)
  have hp : ∀ w, Calls Tryz.prog 91 #[.int .i64 j] w fun e w' => e = .returned (.int .i64 (10 ^ j)) ∧ w = w' := fun w => powerRef_any j w (by omega)
  by_cases h : j < k
  ·have hm := hl j h
   have hm2 : (((10 : Int) ^ j).tmod b == 0) = false := by rw [Int.tmod_eq_emod_of_nonneg (by omega)]; simpa using hm
   have hm3 : ((10 : Int) ^ j % b == 0) = false := by simpa using hm
   have hm4 : 0 ≤ (10 : Int) ^ j % b := Int.emod_nonneg _ (by omega)
   have hm5 : (10 : Int) ^ j % b < b := Int.emod_lt_of_pos _ (by omega)
   clear hl hN hm hit h1
   generalize (10 : Int) ^ j = P at *
   go_wp2_with fail
   refine wp_region_gr (by kernel_rfl) (by kernel_rfl) ?_
   repeat (go_big_quiet_step ((go_at_call 91; exact gr_same (hp _))))
   refine wpQuiet_nil ?_
   intro _ hw'; obtain ⟨w5, hw''⟩ := hw'; subst hw''
   have hB := gr_below wr w5
   generalize gr wr w5 = w4 at *
   go_wp2_with fail
   go_roundg (k - (j + 1) + 1)
   case measure => omega
   case rel => exact ⟨j + 1, _, by omega, by omega, rfl, hbr.then_ hB, rfl⟩
  ·obtain rfl : j = k := by omega
   have ht3 : ((10 : Int) ^ j).tmod b = 0 := by rw [Int.tmod_eq_emod_of_nonneg (by omega), hit]
   clear hl h1
   generalize (10 : Int) ^ j = P at *
   go_wp2_with fail
   refine wp_region_gr (by kernel_rfl) (by kernel_rfl) ?_
   repeat (go_big_quiet_step ((go_at_call 91; exact gr_same (hp _))))
   refine wpQuiet_nil ?_
   intro _ hw'; obtain ⟨w5, hw''⟩ := hw'; subst hw''
   have hB := gr_below wr w5
   generalize gr wr w5 = w4 at *
   obtain ⟨g0, g1⟩ := (KN.on hB).two
   clear f0 f1
   go_wp2_with fail
   refine (hN _).mono ?_
   rintro e w6 ⟨rfl, hb6⟩
   go_wp2
   go_ret
   exact ⟨rfl, (hb.then_ hB).then_ hb6⟩
theorem formatR_none (a b : Int) (w : World) (v1 : Num.val a b = true) (hl : ∀ j, j ≤ 9 → ¬ (10 : Int) ^ j % b = 0) :
  Calls Tryz.prog 41 #[.agg #[.int .i64 a, .int .i64 b]] w fun e w' => e = .returned (.string ⟨(Lib.itoa a ++ [47] ++ Lib.itoa b).toArray⟩) ∧ Below w.heap.size w w' := by
 obtain ⟨k1, k2, k3, k4, k5⟩ := Num.val_iff.1 v1
 have hz : (b == 0) = false := by simp; omega
 have hI := fun w => decimal_any a w (by omega) (by omega)
 have hJ := fun w => decimal_any b w (by omega) (by omega)
 have e1 : (⟨(Lib.itoa a ++ [47] ++ Lib.itoa b).toArray⟩ : ByteArray) = ⟨(Lib.itoa a).toArray⟩ ++ ⟨#[47]⟩ ++ ⟨(Lib.itoa b).toArray⟩ := by rw [← mk_append (Lib.itoa a ++ [47]), ← mk_append (Lib.itoa a) [47]]
 rw [e1]
 have s1 : (⟨(Lib.itoa a).toArray⟩ : ByteArray).size ≤ 21 := by rw [size_mk]; exact Lib.itoa_length_le a (by omega) (by omega)
 have s2 : (⟨(Lib.itoa b).toArray⟩ : ByteArray).size ≤ 21 := by rw [size_mk]; exact Lib.itoa_length_le b (by omega) (by omega)
 clear e1
 generalize (⟨(Lib.itoa a).toArray⟩ : ByteArray) = A at *
 generalize (⟨(Lib.itoa b).toArray⟩ : ByteArray) = B at *
 go_enter Tryz.func41, Tryz.ntmps41
 go_wp2_with fail
 refine (validRef_any a b _ (by omega) (by omega)).mono ?_
 rintro e w1 ⟨rfl, hb1⟩
 rw [v1]
 go_wp2_with fail
 have KN := (Known.made w 50 #[.int .i64 a, .int .i64 b]).on hb1
 have hb := (below_new0 w (.cells #[.int .i64 a, .int .i64 b] 50)).then_ hb1
 clear hb1 v1
 go_loopg [3] 11 (fun g s3 wr => ∃ (j : Nat) (wq : World), j ≤ 10 ∧ 10 - j < g ∧ s3 = .int .i64 j ∧ Below w1.heap.size w1 wq ∧ wq = wr)
 case atStart => exact ⟨0, _, by omega, by omega, rfl, Below.refl _ _, rfl⟩
 case round =>
  obtain ⟨j, wr, hj, hg, rfl, hbr, rfl⟩ := hrel
  replace hb := hb.then_ hbr
  replace KN := KN.on hbr
  obtain ⟨f0, f1⟩ := KN.two
  have hlt := KN.lt
  by_cases h : j ≤ 9
  ·have hm := hl j h
   obtain ⟨q1, q2⟩ := pow_bd j (by omega)
   have hp : ∀ w, Calls Tryz.prog 91 #[.int .i64 j] w fun e w' => e = .returned (.int .i64 (10 ^ j)) ∧ w = w' := fun w => powerRef_any j w (by omega)
   have hm2 : (((10 : Int) ^ j).tmod b == 0) = false := by rw [Int.tmod_eq_emod_of_nonneg (by omega)]; simpa using hm
   have hm3 : ((10 : Int) ^ j % b == 0) = false := by simpa using hm
   have hm4 : 0 ≤ (10 : Int) ^ j % b := Int.emod_nonneg _ (by omega)
   have hm5 : (10 : Int) ^ j % b < b := Int.emod_lt_of_pos _ (by omega)
   clear hl hI hJ hm
   generalize (10 : Int) ^ j = P at *
   go_wp2_with fail
   refine wp_region_gr (by kernel_rfl) (by kernel_rfl) ?_
   repeat (go_big_quiet_step ((go_at_call 91; exact gr_same (hp _))))
   refine wpQuiet_nil ?_
   intro _ hw'; obtain ⟨w5, hw''⟩ := hw'; subst hw''
   have hB := gr_below wr w5
   generalize gr wr w5 = w4 at *
   go_wp2_with fail
   go_roundg (10 - (j + 1) + 1)
   case measure => omega
   case rel => exact ⟨j + 1, _, by omega, by omega, rfl, hbr.then_ hB, rfl⟩
  ·obtain rfl : j = 10 := by omega
   clear hl
   go_wp2_with fail
   refine wp_region_gr (by kernel_rfl) (by kernel_rfl) ?_
   repeat (go_big_quiet_step (first | (go_at_call 20; with_reducible exact gr_call (hI _)) | (go_at_call 20; with_reducible exact gr_call (hJ _))))
   refine wpQuiet_nil ?_
   intro _ hw'; obtain ⟨w5, hw''⟩ := hw'; subst hw''
   have hB := gr_below wr w5
   generalize gr wr w5 = w4 at *
   go_wp2
   go_ret
   exact ⟨rfl, hb.then_ hB⟩
end Go.Proofs.YtcklofamaooegaaGreatDoor
