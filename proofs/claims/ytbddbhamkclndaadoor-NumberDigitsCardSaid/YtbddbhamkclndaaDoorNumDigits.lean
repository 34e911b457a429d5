/-
  Decimal notations are read as what they were written from; the law NumberDigits. Conditions: those typed in each theorem; the library's table of powers of ten reads as its initialiser lays it.
-/
import Derived.Test.YtbddbhamkclndaaDoorNumPar2
import Derived.Test.YtbddbhamkclndaaDoorNumFmt2
import Derived.Test.YtbddbhamkclndaaDoorNumOf
namespace Go.Proofs.YtbddbhamkclndaaDoor
open Go.RowKit

theorem digit_byte (d : Nat) (h : d < 10) : Num.isD (UInt8.ofNat (48 + d)) = true ∧ (UInt8.ofNat (48 + d)).toNat = 48 + d := by
  have : (UInt8.ofNat (48 + d)).toNat = 48 + d := by simp; omega
  exact ⟨Num.isD_iff.2 (by omega), this⟩
/-- a natural number's digits are digits, and spell it -/
theorem dec_all (n : Nat) : (∀ c ∈ Lib.decDigits n, Num.isD c = true) ∧ Num.value 0 (Lib.decDigits n) = n := by
  induction n using Nat.strongRecOn with
  | ind n ih =>
    rw [decDigits_step]
    by_cases h : n < 10
    · rw [if_pos h]
      obtain ⟨h1, h2⟩ := digit_byte n h
      refine ⟨fun c hc => by rw [List.mem_singleton.1 hc]; exact h1, ?_⟩
      rw [Num.value_cons, Num.value_nil, h2]
      omega
    · rw [if_neg h]
      obtain ⟨h1, h2⟩ := digit_byte (n % 10) (by omega)
      obtain ⟨g1, g2⟩ := ih (n / 10) (by omega)
      refine ⟨fun c hc => ?_, ?_⟩
      · rcases List.mem_append.1 hc with hc | hc
        · exact g1 c hc
        · rw [List.mem_singleton.1 hc]; exact h1
      · rw [Num.value_snoc, g2, h2]
        omega
theorem digs_all (k : Nat) : ∀ n, (∀ c ∈ Num.digs k n, Num.isD c = true) ∧ Num.value 0 (Num.digs k n) = n % 10 ^ k := by
  induction k with
  | zero => intro n; exact ⟨fun c hc => by simp [Num.digs] at hc, by rw [Num.digs, Num.value_nil]; omega⟩
  | succ k ih =>
    intro n
    obtain ⟨g1, g2⟩ := ih (n / 10)
    obtain ⟨h1, h2⟩ := digit_byte (n % 10) (by omega)
    rw [Num.digs]
    refine ⟨fun c hc => ?_, ?_⟩
    · rcases List.mem_append.1 hc with hc | hc
      · exact g1 c hc
      · rw [List.mem_singleton.1 hc]; exact h1
    · rw [Num.value_snoc, g2, h2, Nat.pow_succ, Nat.mul_comm (10 ^ k) 10, Nat.mod_mul]
      omega
/-- less than k digits -/
theorem dec_short (k : Nat) : ∀ n, n < 10 ^ (k + 1) → (Lib.decDigits n).length ≤ k + 1 := fun n h => (Num.fill_eq k n h).1
theorem no_point {l : List UInt8} (h : ∀ c ∈ l, Num.isD c = true) : ∀ c ∈ l, c ≠ 46 := by
  intro c hc e
  have := Num.isD_iff.1 (h c hc)
  rw [e] at this
  exact absurd this (by decide)
theorem index_none {l : List UInt8} (h : ∀ c ∈ l, c ≠ 46) : Lib.indexByte l 46 = -1 := by
  rcases index_cases l with ⟨h1, _⟩ | ⟨p, hp, _, h2, _⟩
  · exact h1
  · exact absurd h2 (h _ (List.getElem_mem _))
theorem index_app {a b : List UInt8} (h : ∀ c ∈ a, c ≠ 46) : Lib.indexByte (a ++ 46 :: b) 46 = (a.length : Int) := by
  induction a with
  | nil => simp [Lib.indexByte]
  | cons c r ih =>
    have := ih (fun d hd => h d (by simp [hd]))
    have hc : ¬ c = 46 := h c (by simp)
    have hn : ((r.length : Int) == -1) = false := by simp <;> omega
    simp [Lib.indexByte, this, hc, hn]
theorem endD_mk (l : List UInt8) (i : Nat) : Num.endD ⟨l.toArray⟩ i = i + Num.lead (l.drop i) := by
  unfold Num.endD
  simp
/-- the notation of a natural number reads as it -/
theorem reads_dec (v k : Nat) (hk : k ≤ 9) (hv : v / 10 ^ k < 1000000000) : Reads ⟨(Num.dec v k).toArray⟩ (some (v, k)) := by
  obtain ⟨q1, q2⟩ := dec_all (v / 10 ^ k)
  obtain ⟨d1, d2⟩ := digs_all k v
  have dl := Num.digs_len k v
  have ql := dec_short 8 (v / 10 ^ k) (by omega)
  have qn := Num.dec_len (v / 10 ^ k)
  by_cases k0 : k = 0
  · subst k0
    have e : Num.dec v 0 = Lib.decDigits (v / 10 ^ 0) := by unfold Num.dec; rw [if_pos rfl, Nat.pow_zero, Nat.div_one]
    rw [e]
    have hz := size_mk (Lib.decDigits (v / 10 ^ 0))
    have hval : Num.value 0 (⟨(Lib.decDigits (v / 10 ^ 0)).toArray⟩ : ByteArray).data.toList = v := by
      show Num.value 0 (Lib.decDigits (v / 10 ^ 0)).toArray.toList = v
      rw [List.toList_toArray, q2, Nat.pow_zero, Nat.div_one]
    have hd : Num.endD ⟨(Lib.decDigits (v / 10 ^ 0)).toArray⟩ 0 = (⟨(Lib.decDigits (v / 10 ^ 0)).toArray⟩ : ByteArray).size := by
      rw [endD_mk, List.drop_zero, Num.lead_all q1, hz]; omega
    have := Reads.a4 (R := ⟨(Lib.decDigits (v / 10 ^ 0)).toArray⟩) (by show Lib.indexByte (Lib.decDigits _).toArray.toList 46 = -1; rw [List.toList_toArray]; exact index_none (no_point q1)) hd (by omega) (by omega)
    rw [hval] at this
    exact this
  · have e : Num.dec v k = Lib.decDigits (v / 10 ^ k) ++ 46 :: Num.digs k v := by unfold Num.dec; rw [if_neg k0]; simp
    rw [e]
    generalize hA : Lib.decDigits (v / 10 ^ k) = A at *
    generalize hB : Num.digs k v = B at *
    have hz := size_mk (A ++ 46 :: B)
    rw [List.length_append, List.length_cons] at hz
    have hlist : (⟨(A ++ 46 :: B).toArray⟩ : ByteArray).data.toList = A ++ 46 :: B := by simp
    have eW : (⟨(A ++ 46 :: B).toArray⟩ : ByteArray).extract 0 A.length = ⟨A.toArray⟩ := cut_left A (46 :: B) _ rfl
    have eQ : (⟨(A ++ 46 :: B).toArray⟩ : ByteArray).extract (A.length + 1) (⟨(A ++ 46 :: B).toArray⟩ : ByteArray).size = ⟨B.toArray⟩ := by
      have := cut_right (A ++ [46]) B (A.length + 1) (⟨(A ++ 46 :: B).toArray⟩ : ByteArray).size (by simp) (by rw [hz]; simp; omega)
      rw [List.append_assoc] at this
      exact this
    have hval : Num.value 0 ((((⟨(A ++ 46 :: B).toArray⟩ : ByteArray).extract 0 A.length).data.toList) ++ ((⟨(A ++ 46 :: B).toArray⟩ : ByteArray).extract (A.length + 1) (⟨(A ++ 46 :: B).toArray⟩ : ByteArray).size).data.toList) = v := by
      rw [eW, eQ]
      show Num.value 0 (A.toArray.toList ++ B.toArray.toList) = v
      rw [List.toList_toArray, List.toList_toArray, Num.value_app, Num.value_acc, q2, d2, dl]
      have := Nat.div_add_mod v (10 ^ k)
      rw [Nat.mul_comm] at this
      exact this
    have hlead : Num.endD ⟨(A ++ 46 :: B).toArray⟩ 0 = A.length := by
      rw [endD_mk, List.drop_zero, Num.lead_app q1, Num.lead, if_neg (by decide)]
      omega
    have hW : Num.endD ((⟨(A ++ 46 :: B).toArray⟩ : ByteArray).extract 0 A.length) 0 = A.length := by
      rw [eW, endD_mk, List.drop_zero, Num.lead_all q1]; omega
    have hQ : Num.endD ((⟨(A ++ 46 :: B).toArray⟩ : ByteArray).extract (A.length + 1) (⟨(A ++ 46 :: B).toArray⟩ : ByteArray).size) 0 = B.length := by
      rw [eQ, endD_mk, List.drop_zero, Num.lead_all d1]; omega
    have hk2 : Num.endD ⟨(A ++ 46 :: B).toArray⟩ (A.length + 1) = (⟨(A ++ 46 :: B).toArray⟩ : ByteArray).size := by
      rw [endD_mk, show A ++ 46 :: B = (A ++ [46]) ++ B by simp, List.drop_append_of_le_length (by simp), List.drop_of_length_le (by simp), List.nil_append, Num.lead_all d1]
      rw [show (A ++ [46]) ++ B = A ++ 46 :: B by simp, hz]; omega
    have hp : A.length < (⟨(A ++ 46 :: B).toArray⟩ : ByteArray).size := by omega
    have := Reads.d3 (R := ⟨(A ++ 46 :: B).toArray⟩) A.length (by rw [hlist]; exact index_app (no_point q1)) hp (by rw [Num.at_list _ _ hp]; simp) hlead hW hk2 (by rw [hQ, hz]; omega) (by omega) k (by rw [hz, dl]; omega) (by omega) hk
    rw [hval] at this
    exact this

theorem first_byte (l r : List UInt8) (c : UInt8) (h : l = c :: r) (h0 : 0 < (⟨l.toArray⟩ : ByteArray).size) : (⟨l.toArray⟩ : ByteArray)[0] = c := by
  subst h
  rfl
theorem dec_head (v k : Nat) : ∃ c r, Num.dec v k = c :: r ∧ Num.isD c = true := by
  have key : ∀ m, ∃ c r, Lib.decDigits m = c :: r ∧ Num.isD c = true := by
    intro m
    have h1 := (dec_all m).1
    cases hl : Lib.decDigits m with
    | nil => exact absurd (by rw [hl]; rfl) (Num.dec_len m)
    | cons c r => exact ⟨c, r, rfl, h1 c (by rw [hl]; simp)⟩
  unfold Num.dec
  split
  · exact key v
  · obtain ⟨c, r, h1, h2⟩ := key (v / 10 ^ k)
    exact ⟨c, r ++ [46] ++ Num.digs k v, by rw [h1]; simp, h2⟩
/-- the notation of an integer over a power of ten is read as that fraction -/
theorem parse_decZ (n : Int) (k : Nat) (hk : k ≤ 9) (hn : n.natAbs / 10 ^ k < 1000000000) : Ret 41 #[.string ⟨(decZ n k).toArray⟩] (Num.red n (10 ^ k)) := by
  have hr := reads_dec n.natAbs k hk hn
  obtain ⟨c, r, hc, hd⟩ := dec_head n.natAbs k
  have hd' := Num.isD_iff.1 hd
  have hlen : (Num.dec n.natAbs k).length ≤ 19 := by
    have dl := Num.digs_len k n.natAbs
    have ql := dec_short 8 (n.natAbs / 10 ^ k) (by omega)
    unfold Num.dec
    split
    · rename_i h; subst h
      rw [Nat.pow_zero, Nat.div_one] at ql
      omega
    · rw [List.length_append, List.length_append, dl]
      simp; omega
  by_cases h : n < 0
  · have e : decZ n k = 45 :: Num.dec n.natAbs k := by unfold decZ; rw [if_pos h]; rfl
    rw [e]
    have hz := size_mk (45 :: Num.dec n.natAbs k)
    rw [List.length_cons] at hz
    have h0 : 0 < (⟨(45 :: Num.dec n.natAbs k).toArray⟩ : ByteArray).size := by omega
    have eR : (⟨(45 :: Num.dec n.natAbs k).toArray⟩ : ByteArray).extract 1 (⟨(45 :: Num.dec n.natAbs k).toArray⟩ : ByteArray).size = ⟨(Num.dec n.natAbs k).toArray⟩ :=
      cut_right [45] (Num.dec n.natAbs k) 1 _ rfl (by rw [hz]; simp; omega)
    have := (parse_m ⟨(45 :: Num.dec n.natAbs k).toArray⟩ (by omega) h0 (by rw [first_byte _ _ _ rfl h0]; rfl) _ (by rw [eR]; exact hr)).1
    rw [show resV true (some (n.natAbs, k)) = Num.red n (10 ^ k) by simp only [resV, if_true]; congr 1; omega] at this
    exact this
  · have e : decZ n k = Num.dec n.natAbs k := by unfold decZ; rw [if_neg h]; rfl
    rw [e]
    have hz := size_mk (Num.dec n.natAbs k)
    have hl2 : 0 < (Num.dec n.natAbs k).length := by rw [hc]; simp
    have h0 : 0 < (⟨(Num.dec n.natAbs k).toArray⟩ : ByteArray).size := by omega
    have hb := first_byte _ _ _ hc h0
    have := (parse_n ⟨(Num.dec n.natAbs k).toArray⟩ (by omega) h0 (by rw [hb]; omega) (by rw [hb]; omega) _ hr).1
    rw [show resV false (some (n.natAbs, k)) = Num.red n (10 ^ k) by simp only [resV]; rw [if_neg (by simp)]; congr 1; omega] at this
    exact this

/-- the fraction that the law examines -/
theorem digits_plain (m : Int) (k : Nat) (h1 : -999999 ≤ m) (h2 : m ≤ 999999) (hk : k ≤ 6) :
    ∃ x y t : Int, Num.red m (10 ^ k) = (x, y, 0) ∧ Num.val x y = true ∧ -999999 ≤ x ∧ x ≤ 999999 ∧ (10 : Int) ^ k = y * t := by
  have hp := pow_bd k (by omega)
  have hd : (10 : Int) ^ k ≠ 0 := by omega
  have g1 := Num.rN_abs m hd
  have g2 := Num.rD_le m hd
  have g3 : Num.sD ((10 : Int) ^ k) = (10 : Int) ^ k := by unfold Num.sD; rw [if_neg (by omega)]
  have g4 := Num.rD_pos m hd
  have hr : Num.rB m (10 ^ k) = true := by unfold Num.rB; simp; omega
  refine ⟨Num.rN m (10 ^ k), Num.rD m (10 ^ k), Num.gc m (10 ^ k), ?_, Num.red_val hd hr, by omega, by omega, ?_⟩
  · simp only [Num.red, Num.redN, Num.redD, Num.redE, hr, if_true]
  · rw [Int.mul_comm, Num.rD_mul, g3]
theorem round_exact {x y t P : Int} (v : Num.val x y = true) (h : P = y * t) : rndQ x y P = x * t := by
  have hv := Num.val_iff.1 v
  have key : ∀ M : Int, (2 * M * (y * t) + y) / (2 * y) = M * t := by
    intro M
    rw [show 2 * M * (y * t) + y = y * (2 * (M * t) + 1) by grind, Int.mul_comm 2 y, Int.mul_ediv_mul_of_pos _ _ (by omega)]
    omega
  unfold rndQ rndU
  rw [h, key]
  by_cases hx : x < 0
  · rw [if_pos hx, show max x (-x) = -x by omega, Int.neg_mul, Int.neg_neg]
  · rw [if_neg hx, show max x (-x) = x by omega]
theorem abs_div (x t : Int) (k : Nat) (hx : -999999 ≤ x) (hx2 : x ≤ 999999) (ht : 0 ≤ t) (ht2 : t ≤ (10 : Int) ^ k) : (x * t).natAbs / 10 ^ k < 1000000000 := by
  have hp : (0 : Nat) < 10 ^ k := Nat.pow_pos (by omega)
  have h1 : t.natAbs ≤ 10 ^ k := by
    have : ((10 ^ k : Nat) : Int) = (10 : Int) ^ k := by simp
    omega
  rw [Int.natAbs_mul]
  have h2 : x.natAbs * t.natAbs ≤ 999999 * 10 ^ k := Nat.mul_le_mul (by omega) h1
  have h3 := Nat.div_le_div_right (c := 10 ^ k) h2
  rw [Nat.mul_div_cancel _ hp] at h3
  omega
theorem digits_format {x y : Int} {k : Nat} (v : Num.val x y = true) (hx : -999999 ≤ x) (hx2 : x ≤ 999999) (hk : k ≤ 9) (hd : (10 : Int) ^ k % y = 0) : ∃ s : ByteArray,
    (∀ w, Tab w → Calls Tryd.prog 21 #[.agg #[.int .i64 x, .int .i64 y]] w fun e w' => e = .returned (.string s) ∧ Below w.heap.size w w') ∧ Ret 41 #[.string s] (x, y, 0) := by
  have hv := Num.val_iff.1 v
  obtain ⟨j, hj, hit, hl⟩ := least (fun k => (10 : Int) ^ k % y = 0) 9 ⟨k, hk, hd⟩
  have hp := pow_bd j hj
  have ht : (10 : Int) ^ j = y * ((10 : Int) ^ j / y) := (Int.mul_ediv_cancel' (Int.dvd_of_emod_eq_zero hit)).symm
  have t0 : 0 ≤ (10 : Int) ^ j / y := Int.ediv_nonneg (by omega) (by omega)
  have t2 : (10 : Int) ^ j / y ≤ (10 : Int) ^ j := Int.ediv_le_self _ (by omega)
  refine ⟨_, fun w hT => formatP_hit x y j w v hj hit hl hT, ?_⟩
  have := parse_decZ (x * ((10 : Int) ^ j / y)) j hj (abs_div x _ j hx hx2 t0 t2)
  rw [Num.red_to (a := x) (b := y) (by omega) v (by rw [Int.mul_assoc, Int.mul_comm _ y, ← ht])] at this
  exact this

set_option maxHeartbeats 2000000 in
theorem law_digits (a u : Int) (w : World) (ht : Tab w) :
    Calls Tryd.prog 13 #[.int .i64 a, .int .i64 u] w fun e w' => e = .returned (.bool true) ∧ Below w.heap.size w w' := by
  have hB : bits BinOp.and IntKind.i64 u 7 = u % 8 := mask_i64 3 (by decide) u _ (by decide)
  have hm1 : (u % 8).tmod 7 = u % 8 % 7 := Int.tmod_eq_emod_of_nonneg (by omega)
  have g0 : 0 ≤ u % 8 % 7 := by omega
  have g6 : u % 8 % 7 ≤ 6 := by omega
  have ha := tmod_bd a 1000000 (by omega)
  generalize u % 8 % 7 = n at *
  obtain ⟨k, rfl⟩ := Int.eq_ofNat_of_zero_le g0
  obtain ⟨x, y, t, hr, v, x1, x2, hP⟩ := digits_plain (a.tmod 1000000) k (by omega) (by omega) (by omega)
  have hv := Num.val_iff.1 v
  have hp := pow_bd k (by omega)
  have hpw : ∀ w, Calls Tryd.prog 32 #[.int .i64 k] w fun e w' => e = .returned (.int .i64 (10 ^ k)) ∧ Below w.heap.size w w' := fun w => (powerRef_any k w (by omega)).mono (by rintro e w' ⟨rfl, rfl⟩; exact ⟨rfl, Below.refl _ _⟩)
  have hM := make_any (a.tmod 1000000) (10 ^ k)
  have hk : mkB (a.tmod 1000000) (10 ^ k) = true := by unfold mkB inV; simp; omega
  have hr' : Num.redN (a.tmod 1000000) (10 ^ k) = x ∧ Num.redD (a.tmod 1000000) (10 ^ k) = y ∧ Num.redE (a.tmod 1000000) (10 ^ k) = 0 := by
    have := hr
    simp only [Num.red, Prod.mk.injEq] at this
    exact this
  have e1 : mkN (a.tmod 1000000) (10 ^ k) = x := by simp [mkN, hk, hr'.1]
  have e2 : mkD (a.tmod 1000000) (10 ^ k) = y := by simp [mkD, hk, hr'.2.1]
  have e3 : mkE (a.tmod 1000000) (10 ^ k) = 0 := by simp [mkE, hk, hr'.2.2]
  rw [e1, e2, e3] at hM
  have hd : (10 : Int) ^ k % y = 0 := by rw [hP]; exact Int.mul_emod_right _ _
  have hq : (10 : Int) ^ k / y = t := by rw [hP]; exact Int.mul_ediv_cancel_left _ (by omega)
  obtain ⟨s, fF, pF⟩ := digits_format v x1 x2 (show k ≤ 9 by omega) hd
  have ix := val_i64 v
  have hR := roundP_any x y k ix.1 ix.2
  have hrv : roundV x y k = (x, y, 0) := by
    unfold roundV
    rw [v, if_pos rfl, if_neg (by omega), show ((k : Int).toNat) = k by omega, round_exact v hP]
    exact Num.red_to (by omega) v (by rw [hP, Int.mul_assoc, Int.mul_comm t])
  rw [hrv] at hR
  have xF := fun w hT => fixedP_ok x y x y k w (by omega) v hT hR
  have t0 : 0 ≤ (10 : Int) ^ k / y := Int.ediv_nonneg (by omega) (by omega)
  have t2 : (10 : Int) ^ k / y ≤ (10 : Int) ^ k := Int.ediv_le_self _ (by omega)
  have pX := parse_decZ (x * ((10 : Int) ^ k / y)) k (by omega) (abs_div x _ k x1 x2 t0 t2)
  rw [Num.red_to (a := x) (b := y) (by omega) v (by rw [hq, Int.mul_assoc, Int.mul_comm t, ← hP])] at pX
  generalize decZ (x * ((10 : Int) ^ k / y)) k = X at *
  unfold Ret at pF pX
  simp only at pF pX
  clear hR hrv t0 t2 hq hd e1 e2 e3 hr' hk hr
  generalize (10 : Int) ^ k = P at *
  clear hP
  go_enter Tryd.func13, Tryd.ntmps13
  go_wp2_with fail
  refine (hpw _).mono ?_
  rintro e w1 ⟨rfl, hb1⟩
  have hb := hb1
  go_wp2_with fail
  refine (hM _).mono ?_
  rintro e w2 ⟨rfl, hb2⟩
  replace hb := hb.then_ hb2
  replace hb := hb.then_ (below_new0 _ (.cells #[.int .i64 x, .int .i64 y] 23))
  have Kn := Known.made w2 23 #[.int .i64 x, .int .i64 y]
  obtain ⟨cn0, cn1⟩ := Kn.two
  have hT1 := ht.on hb
  go_wp2_with fail
  refine (fF _ hT1).mono ?_
  rintro e w3 ⟨rfl, hb3⟩
  replace hb := hb.then_ hb3
  replace Kn := Kn.on hb3
  clear cn0 cn1
  obtain ⟨cn0, cn1⟩ := Kn.two
  clear cn0 cn1
  obtain ⟨cn0, cn1⟩ := Kn.two
  go_wp2_with fail
  refine (pF _).mono ?_
  rintro e w4 ⟨rfl, hb4⟩
  replace hb := hb.then_ hb4
  replace Kn := Kn.on hb4
  replace hb := hb.then_ (below_new0 _ (.cells #[.int .i64 x, .int .i64 y] 23))
  replace Kn := Kn.alloc (.cells #[.int .i64 x, .int .i64 y] 23)
  have Kx := Known.made w4 23 #[.int .i64 x, .int .i64 y]
  clear cn0 cn1
  obtain ⟨cn0, cn1⟩ := Kn.two
  obtain ⟨cx0, cx1⟩ := Kx.two
  have hT2 := ht.on hb
  go_wp2_with fail
  refine (xF _ hT2).mono ?_
  rintro e w5 ⟨rfl, hb5⟩
  replace hb := hb.then_ hb5
  replace Kn := Kn.on hb5
  replace Kx := Kx.on hb5
  clear cn0 cn1 cx0 cx1
  obtain ⟨cn0, cn1⟩ := Kn.two
  obtain ⟨cx0, cx1⟩ := Kx.two
  clear cn0 cn1 cx0 cx1
  obtain ⟨cn0, cn1⟩ := Kn.two
  obtain ⟨cx0, cx1⟩ := Kx.two
  go_wp2_with fail
  refine (pX _).mono ?_
  rintro e w6 ⟨rfl, hb6⟩
  replace hb := hb.then_ hb6
  replace Kn := Kn.on hb6
  replace Kx := Kx.on hb6
  replace hb := hb.then_ (below_new0 _ (.cells #[.int .i64 x, .int .i64 y] 23))
  replace Kn := Kn.alloc (.cells #[.int .i64 x, .int .i64 y] 23)
  replace Kx := Kx.alloc (.cells #[.int .i64 x, .int .i64 y] 23)
  have Kz := Known.made w6 23 #[.int .i64 x, .int .i64 y]
  clear cn0 cn1 cx0 cx1
  obtain ⟨cn0, cn1⟩ := Kn.two
  obtain ⟨cx0, cx1⟩ := Kx.two
  obtain ⟨cz0, cz1⟩ := Kz.two
  go_wp2_with fail
  refine (known_any _).mono ?_
  rintro e w7 ⟨rfl, hb7⟩
  go_wp2
  go_ret
  exact ⟨rfl, hb.then_ hb7⟩
end Go.Proofs.YtbddbhamkclndaaDoor
