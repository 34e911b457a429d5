/-
  The notation with a point, by the reference. Conditions: those typed in each theorem.
-/
import Derived.Test.YtbddbhamkclndaaDoorNumDecW
namespace Go.Proofs.YtbddbhamkclndaaDoor
open Go.RowKit

set_option maxRecDepth 10000 in
set_option maxHeartbeats 2000000 in
theorem notation_k (a b : Int) (k : Nat) (P v q m : Int) (w : World) (ha : -1000000000 ≤ a) (ha2 : a ≤ 1000000000) (hb1 : 1 ≤ b) (hb2 : b ≤ 1000000000) (hk : k ≤ 9) (h0 : 0 < k) (p1 : 1 ≤ P) (p2 : P ≤ 1000000000)
    (hp : ∀ w, Calls Tryd.prog 32 #[.int .i64 k] w fun e w' => e = .returned (.int .i64 P) ∧ w = w')
    (hv : max a (-a) * (P / b) = v) (v0 : 0 ≤ v) (v1 : v ≤ 1000000000000000000) (hq : v / P = q) (hm : v % P = m) (D F : List UInt8) (hD : D.length ≤ k) (hF : F.length ≤ 100)
    (hI : ∀ w, Calls Tryd.prog 54 #[.int .i64 q] w fun e w' => e = .returned (.string ⟨F.toArray⟩) ∧ Below w.heap.size w w')
    (hJ : ∀ w, Calls Tryd.prog 54 #[.int .i64 m] w fun e w' => e = .returned (.string ⟨D.toArray⟩) ∧ Below w.heap.size w w') :
    Calls Tryd.prog 52 #[.agg #[.int .i64 a, .int .i64 b], .int .i64 k] w fun e w' => e = .returned (.string (if a < 0 then ⟨#[45]⟩ ++ (⟨F.toArray⟩ ++ ⟨#[46]⟩ ++ ⟨(Num.zeros (k - D.length) ++ D).toArray⟩) else ⟨F.toArray⟩ ++ ⟨#[46]⟩ ++ ⟨(Num.zeros (k - D.length) ++ D).toArray⟩)) ∧ Below w.heap.size w w' := by
  have hz : (b == 0) = false := by simp; omega
  have hz2 : (P == 0) = false := by simp; omega
  have hA : ∀ w, Calls Tryd.prog 49 #[.int .i64 a] w fun e w' => e = .returned (.int .i64 (max a (-a))) ∧ w = w' := fun w => abs_any a w (by omega) (by omega)
  have q0 : 0 ≤ P / b := Int.ediv_nonneg (by omega) (by omega)
  have q1 : P / b ≤ P := Int.ediv_le_self _ (by omega)
  have h2 : decide (0 < k) = true := by simpa using h0
  obtain ⟨f0, f1⟩ := (Known.made w 23 #[.int .i64 a, .int .i64 b]).two
  have hlt := (Known.made w 23 #[.int .i64 a, .int .i64 b]).lt
  have hb := below_new0 w (.cells #[.int .i64 a, .int .i64 b] 23)
  have KN := Known.made w 23 #[.int .i64 a, .int .i64 b]
  generalize hmx : max a (-a) = x at *
  have ht1 : P.tdiv b = P / b := Int.tdiv_eq_ediv_of_nonneg (by omega)
  have ht2 : v.tdiv P = q := by rw [Int.tdiv_eq_ediv_of_nonneg (by omega), hq]
  have ht3 : v.tmod P = m := by rw [Int.tmod_eq_emod_of_nonneg (by omega), hm]
  have q2 : 0 ≤ q := by rw [← hq]; exact Int.ediv_nonneg v0 (by omega)
  have q3 : q ≤ v := by rw [← hq]; exact Int.ediv_le_self _ v0
  have m2 : 0 ≤ m := by rw [← hm]; exact Int.emod_nonneg _ (by omega)
  have m3 : m < P := by rw [← hm]; exact Int.emod_lt_of_pos _ (by omega)
  clear hq hm
  go_enter Tryd.func52, Tryd.ntmps52
  go_wp2_with fail
  refine wp_region_gr (by kernel_rfl) (by kernel_rfl) ?_
  repeat (go_big_quiet_step (first | (go_at_call 49; exact gr_same (hA _)) | (go_at_call 32; exact gr_same (hp _))))
  refine wpQuiet_nil ?_
  intro _ hw'; obtain ⟨w5, hw''⟩ := hw'; subst hw''
  have hB := gr_below (w.alloc (.cells #[.int .i64 a, .int .i64 b] 23)) w5
  generalize gr (w.alloc (.cells #[.int .i64 a, .int .i64 b] 23)) w5 = w1 at *
  replace hb := hb.then_ hB
  replace KN := KN.on hB
  go_wp2_with fail
  refine (hp _).mono ?_
  rintro e w2 ⟨rfl, rfl⟩
  go_wp2_with fail
  refine (hI _).mono ?_
  rintro e w2 ⟨rfl, hb2⟩
  replace hb := hb.then_ hb2
  replace KN := KN.on hb2
  go_wp2_with fail
  refine (hp _).mono ?_
  rintro e w3 ⟨rfl, rfl⟩
  go_wp2_with fail
  refine (hJ _).mono ?_
  rintro e w3 ⟨rfl, hb3⟩
  replace hb := hb.then_ hb3
  replace KN := KN.on hb3
  obtain ⟨g0, g1⟩ := KN.two
  clear f0 f1 hI hJ hp hA hv ht1 ht2 ht3
  go_wp2_with fail
  go_loopg [7] (k + 1) (fun g s7 wr => ∃ j : Nat, j + D.length ≤ k ∧ k - (j + D.length) < g ∧ s7 = .string ⟨(Num.zeros j ++ D).toArray⟩ ∧ w3 = wr)
  case atStart => exact ⟨0, by omega, by omega, by simp [Num.zeros], rfl⟩
  case round =>
    obtain ⟨j, hj, hg, rfl, rfl⟩ := hrel
    have hzl : (Num.zeros j).length = j := List.length_replicate
    by_cases hlt : j + D.length < k
    · have h4 : decide (j + D.length < k) = true := by simpa using hlt
      go_wp2_with fail
      go_roundg (k - (j + 1 + D.length) + 1)
      case measure => omega
      case rel => exact ⟨j + 1, by omega, by omega, by rw [mk_append [48] (Num.zeros j ++ D)]; rfl, rfl⟩
    · have h4 : decide (j + D.length < k) = false := by simpa using hlt
      obtain rfl : j = k - D.length := by omega
      by_cases hn : a < 0
      · have h3 : decide (a < 0) = true := by simpa using hn
        go_wp2_with fail
        go_ret
        exact ⟨by first | rfl | (rw [if_pos hn]; rfl) | simp [hn, results], hb⟩
      · have h3 : decide (a < 0) = false := by simpa using hn
        go_wp2_with fail
        go_ret
        exact ⟨by first | rfl | (rw [if_neg hn]; rfl) | simp [hn, results], hb⟩

set_option maxRecDepth 10000 in
set_option maxHeartbeats 2000000 in
theorem notation_0 (a b : Int) (P v q : Int) (w : World) (ha : -1000000000 ≤ a) (ha2 : a ≤ 1000000000) (hb1 : 1 ≤ b) (hb2 : b ≤ 1000000000) (p1 : 1 ≤ P) (p2 : P ≤ 1000000000)
    (hp : ∀ w, Calls Tryd.prog 32 #[.int .i64 0] w fun e w' => e = .returned (.int .i64 P) ∧ w = w')
    (hv : max a (-a) * (P / b) = v) (v0 : 0 ≤ v) (v1 : v ≤ 1000000000000000000) (hq : v / P = q) (F : List UInt8) (hF : F.length ≤ 100)
    (hI : ∀ w, Calls Tryd.prog 54 #[.int .i64 q] w fun e w' => e = .returned (.string ⟨F.toArray⟩) ∧ Below w.heap.size w w') :
    Calls Tryd.prog 52 #[.agg #[.int .i64 a, .int .i64 b], .int .i64 0] w fun e w' => e = .returned (.string (if a < 0 then ⟨#[45]⟩ ++ ⟨F.toArray⟩ else ⟨F.toArray⟩)) ∧ Below w.heap.size w w' := by
  have hz : (b == 0) = false := by simp; omega
  have hz2 : (P == 0) = false := by simp; omega
  have hA : ∀ w, Calls Tryd.prog 49 #[.int .i64 a] w fun e w' => e = .returned (.int .i64 (max a (-a))) ∧ w = w' := fun w => abs_any a w (by omega) (by omega)
  have q0 : 0 ≤ P / b := Int.ediv_nonneg (by omega) (by omega)
  have q1 : P / b ≤ P := Int.ediv_le_self _ (by omega)
  obtain ⟨f0, f1⟩ := (Known.made w 23 #[.int .i64 a, .int .i64 b]).two
  have hlt := (Known.made w 23 #[.int .i64 a, .int .i64 b]).lt
  have hb := below_new0 w (.cells #[.int .i64 a, .int .i64 b] 23)
  have KN := Known.made w 23 #[.int .i64 a, .int .i64 b]
  generalize hmx : max a (-a) = x at *
  have ht1 : P.tdiv b = P / b := Int.tdiv_eq_ediv_of_nonneg (by omega)
  have ht2 : v.tdiv P = q := by rw [Int.tdiv_eq_ediv_of_nonneg (by omega), hq]
  have q2 : 0 ≤ q := by rw [← hq]; exact Int.ediv_nonneg v0 (by omega)
  have q3 : q ≤ v := by rw [← hq]; exact Int.ediv_le_self _ v0
  clear hq
  go_enter Tryd.func52, Tryd.ntmps52
  go_wp2_with fail
  refine wp_region_gr (by kernel_rfl) (by kernel_rfl) ?_
  repeat (go_big_quiet_step (first | (go_at_call 49; exact gr_same (hA _)) | (go_at_call 32; exact gr_same (hp _))))
  refine wpQuiet_nil ?_
  intro _ hw'; obtain ⟨w5, hw''⟩ := hw'; subst hw''
  have hB := gr_below (w.alloc (.cells #[.int .i64 a, .int .i64 b] 23)) w5
  generalize gr (w.alloc (.cells #[.int .i64 a, .int .i64 b] 23)) w5 = w1 at *
  replace hb := hb.then_ hB
  replace KN := KN.on hB
  go_wp2_with fail
  refine (hp _).mono ?_
  rintro e w2 ⟨rfl, rfl⟩
  go_wp2_with fail
  refine (hI _).mono ?_
  rintro e w2 ⟨rfl, hb2⟩
  replace hb := hb.then_ hb2
  replace KN := KN.on hb2
  obtain ⟨g0, g1⟩ := KN.two
  clear f0 f1 hI hp hA hv ht1 ht2
  by_cases hn : a < 0
  · have h3 : decide (a < 0) = true := by simpa using hn
    go_wp2_with fail
    go_ret
    exact ⟨by first | rfl | (rw [if_pos hn]; rfl) | simp [hn, results], hb⟩
  · have h3 : decide (a < 0) = false := by simpa using hn
    go_wp2_with fail
    go_ret
    exact ⟨by first | rfl | (rw [if_neg hn]; rfl) | simp [hn, results], hb⟩

theorem notation_any (a b : Int) (k : Nat) (w : World) (ha : -1000000000 ≤ a) (ha2 : a ≤ 1000000000) (hb1 : 1 ≤ b) (hb2 : b ≤ 1000000000) (hk : k ≤ 9) (ht : 1 ≤ (10 : Int) ^ k / b) :
    Calls Tryd.prog 52 #[.agg #[.int .i64 a, .int .i64 b], .int .i64 k] w fun e w' => e = .returned (.string ⟨(decZ (a * ((10 : Int) ^ k / b)) k).toArray⟩) ∧ Below w.heap.size w w' := by
  obtain ⟨p1, p2⟩ := pow_bd k hk
  have hp := fun w => powerRef_any k w hk
  have hc : ((10 : Int) ^ k) = ((10 ^ k : Nat) : Int) := by simp
  have t2 : (10 : Int) ^ k / b ≤ (10 : Int) ^ k := Int.ediv_le_self _ (by omega)
  generalize ht' : (10 : Int) ^ k / b = t at *
  have sg : a * t < 0 ↔ a < 0 := by
    constructor
    · intro h
      rcases Int.lt_or_le a 0 with h' | h'
      · exact h'
      · have := Int.mul_nonneg h' (show 0 ≤ t by omega); omega
    · exact fun h => Int.mul_neg_of_neg_of_pos h (by omega)
  obtain ⟨l1, l2⟩ := mul_bd ha ha2 (show -1000000000 ≤ t by omega) (show t ≤ 1000000000 by omega)
  have hv : max a (-a) * t = (((a * t).natAbs : Nat) : Int) := by
    rcases Int.lt_or_le a 0 with h | h
    · rw [show max a (-a) = -a by omega, Int.neg_mul]
      have := sg.2 h
      omega
    · rw [show max a (-a) = a by omega]
      have := Int.mul_nonneg h (show 0 ≤ t by omega)
      omega
  have hdec : decZ (a * t) k = (if a < 0 then [45] else []) ++ Num.dec (a * t).natAbs k := by
    unfold decZ
    by_cases h : a < 0
    · rw [if_pos h, if_pos (sg.2 h)]
    · rw [if_neg h, if_neg (fun h' => h (sg.1 h'))]
  have hvl : (a * t).natAbs ≤ 1000000000000000000 := by omega
  generalize (a * t).natAbs = v at *
  have hq : (v : Int) / (10 : Int) ^ k = ((v / 10 ^ k : Nat) : Int) := by rw [hc]; exact (Int.natCast_ediv _ _).symm
  have hm : (v : Int) % (10 : Int) ^ k = ((v % 10 ^ k : Nat) : Int) := by rw [hc]; exact (Int.natCast_emod _ _).symm
  have hq2 : v / 10 ^ k ≤ v := Nat.div_le_self _ _
  have hm2 : v % 10 ^ k ≤ v := Nat.mod_le _ _
  have n1 : (0 : Int) ≤ ((v / 10 ^ k : Nat) : Int) := Int.natCast_nonneg _
  have n2 : (0 : Int) ≤ ((v % 10 ^ k : Nat) : Int) := Int.natCast_nonneg _
  have n3 : ((v / 10 ^ k : Nat) : Int) ≤ 1000000000000000000 := Int.le_trans (Int.ofNat_le.2 hq2) (by omega)
  have n4 : ((v % 10 ^ k : Nat) : Int) ≤ 1000000000000000000 := Int.le_trans (Int.ofNat_le.2 hm2) (by omega)
  have hI := fun w => decimal_any ((v / 10 ^ k : Nat) : Int) w (Int.le_trans (by decide) n1) n3
  have hJ := fun w => decimal_any ((v % 10 ^ k : Nat) : Int) w (Int.le_trans (by decide) n2) n4
  rw [itoa_nat] at hI hJ
  have hle := Lib.itoa_length_le ((v / 10 ^ k : Nat) : Int) (Int.le_trans (by decide) n1) (Int.le_trans n3 (by decide))
  rw [itoa_nat] at hle
  by_cases k0 : k = 0
  · subst k0
    have := notation_0 a b ((10 : Int) ^ 0) v ((v / 10 ^ 0 : Nat) : Int) w ha ha2 hb1 hb2 p1 p2 hp (by rw [ht']; exact hv) (by omega) (by omega) hq (Lib.decDigits (v / 10 ^ 0)) (by omega) hI
    refine this.mono ?_
    rintro e w' ⟨rfl, hb⟩
    refine ⟨?_, hb⟩
    rw [hdec]
    unfold Num.dec
    rw [if_pos rfl, Nat.pow_zero, Nat.div_one]
    by_cases h : a < 0
    · rw [if_pos h, if_pos h, ← mk_append]
    · rw [if_neg h, if_neg h, List.nil_append]
  · have hlt : v % 10 ^ k < 10 ^ k := Nat.mod_lt _ (Nat.pow_pos (by omega))
    obtain ⟨g1, g2⟩ := Num.fill_eq (k - 1) (v % 10 ^ k) (by rw [show k - 1 + 1 = k by omega]; exact hlt)
    rw [show k - 1 + 1 = k by omega] at g1 g2
    have := notation_k a b k ((10 : Int) ^ k) v ((v / 10 ^ k : Nat) : Int) ((v % 10 ^ k : Nat) : Int) w ha ha2 hb1 hb2 hk (by omega) p1 p2 hp (by rw [ht']; exact hv) (by omega) (by omega) hq hm (Lib.decDigits (v % 10 ^ k)) (Lib.decDigits (v / 10 ^ k)) g1 (by omega) hI hJ
    rw [g2, Num.digs_mod] at this
    refine this.mono ?_
    rintro e w' ⟨rfl, hb⟩
    refine ⟨?_, hb⟩
    rw [hdec]
    unfold Num.dec
    rw [if_neg k0]
    by_cases h : a < 0
    · rw [if_pos h, if_pos h, ← mk_append [45], ← mk_append (Lib.decDigits (v / 10 ^ k) ++ [46]), ← mk_append (Lib.decDigits (v / 10 ^ k)) [46]]
    · rw [if_neg h, if_neg h, List.nil_append, ← mk_append (Lib.decDigits (v / 10 ^ k) ++ [46]), ← mk_append (Lib.decDigits (v / 10 ^ k)) [46]]
end Go.Proofs.YtbddbhamkclndaaDoor
