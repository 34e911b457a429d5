/-
  Format, by the program and by the reference. Conditions: those typed in each theorem; the library's table of powers of ten reads as its initialiser lays it.
-/
import Derived.Test.YtbddbhamkclndaaDoorNumNot
import Derived.Test.YtbddbhamkclndaaDoorNumFloor2
namespace Go.Proofs.YtbddbhamkclndaaDoor
open Go.RowKit

theorem least (p : Nat → Prop) [DecidablePred p] : ∀ n, (∃ k, k ≤ n ∧ p k) → ∃ k, k ≤ n ∧ p k ∧ ∀ j, j < k → ¬ p j := by
  intro n
  induction n with
  | zero => rintro ⟨k, hk, h⟩; exact ⟨k, hk, h, fun j hj => by omega⟩
  | succ n ih =>
    rintro ⟨k, hk, h⟩
    by_cases h' : ∃ k, k ≤ n ∧ p k
    · obtain ⟨k, h1, h2, h3⟩ := ih h'
      exact ⟨k, by omega, h2, h3⟩
    · exact ⟨k, hk, h, fun j hj hp => h' ⟨j, by omega, hp⟩⟩

set_option maxRecDepth 10000 in
set_option maxHeartbeats 1000000 in
theorem formatP_hit (a b : Int) (k : Nat) (w : World) (v1 : Num.val a b = true) (hk : k ≤ 9) (hit : (10 : Int) ^ k % b = 0) (hl : ∀ j, j < k → ¬ (10 : Int) ^ j % b = 0) (ht : Tab w) :
    Calls Tryd.prog 21 #[.agg #[.int .i64 a, .int .i64 b]] w fun e w' => e = .returned (.string ⟨(decZ (a * ((10 : Int) ^ k / b)) k).toArray⟩) ∧ Below w.heap.size w w' := by
  obtain ⟨k1, k2, k3, k4, k5⟩ := Num.val_iff.1 v1
  have hz : (b == 0) = false := by simp; omega
  obtain ⟨p1, p2⟩ := pow_bd k hk
  have t0 : 0 ≤ (10 : Int) ^ k / b := Int.ediv_nonneg (by omega) (by omega)
  have t2 : (10 : Int) ^ k / b ≤ (10 : Int) ^ k := Int.ediv_le_self _ (by omega)
  obtain ⟨l1, l2⟩ := mul_bd k1 k2 (show -1000000000 ≤ (10 : Int) ^ k / b by omega) (show (10 : Int) ^ k / b ≤ 1000000000 by omega)
  have hD := fun w ht => decimal_z (a * ((10 : Int) ^ k / b)) k w (by omega) (by omega) hk ht
  have ht1 : ((10 : Int) ^ k).tdiv b = (10 : Int) ^ k / b := Int.tdiv_eq_ediv_of_nonneg (by omega)
  have ht3 : ((10 : Int) ^ k).tmod b = 0 := by rw [Int.tmod_eq_emod_of_nonneg (by omega), hit]
  generalize (10 : Int) ^ k / b = t at *
  generalize hn : a * t = n at *
  go_enter Tryd.func21, Tryd.ntmps21
  go_wp2_with fail
  refine (valid_any a b _ (by omega) (by omega)).mono ?_
  rintro e w1 ⟨rfl, hb1⟩
  rw [v1]
  go_wp2_with fail
  have KN := (Known.made w 23 #[.int .i64 a, .int .i64 b]).on hb1
  obtain ⟨f0, f1⟩ := KN.two
  have hlt := KN.lt
  have hb := (below_new0 w (.cells #[.int .i64 a, .int .i64 b] 23)).then_ hb1
  have hT : Tab w1 := ht.on hb
  clear KN hb1 v1
  go_loopg [3] (k + 1) (fun g s3 wr => ∃ j : Nat, j ≤ k ∧ k - j < g ∧ s3 = .int .i64 j ∧ w1 = wr)
  case atStart => exact ⟨0, by omega, by omega, rfl, rfl⟩
  case round =>
    obtain ⟨j, hj, hg, rfl, rfl⟩ := hrel
    by_cases h : j < k
    · have hm := hl j h
      obtain ⟨q1, q2⟩ := pow_bd j (by omega)
      have hp : ∀ w, Calls Tryd.prog 51 #[.int .i64 j] w fun e w' => e = .returned (.int .i64 (10 ^ j)) ∧ w = w' := fun w => power_any j w (by omega)
      have hm2 : (((10 : Int) ^ j).tmod b == 0) = false := by rw [Int.tmod_eq_emod_of_nonneg (by omega)]; simpa using hm
      have hm3 : ((10 : Int) ^ j % b == 0) = false := by simpa using hm
      have hm4 : 0 ≤ (10 : Int) ^ j % b := Int.emod_nonneg _ (by omega)
      have hm5 : (10 : Int) ^ j % b < b := Int.emod_lt_of_pos _ (by omega)
      clear hl hD hm
      generalize (10 : Int) ^ j = P at *
      go_wp2_with fail
      refine (hp _).mono ?_
      rintro e w2 ⟨rfl, rfl⟩
      go_wp2_with fail
      go_roundg (k - (j + 1) + 1)
      case measure => omega
      case rel => exact ⟨j + 1, by omega, by omega, rfl, rfl⟩
    · obtain rfl : j = k := by omega
      have hp : ∀ w, Calls Tryd.prog 51 #[.int .i64 j] w fun e w' => e = .returned (.int .i64 (10 ^ j)) ∧ w = w' := fun w => power_any j w (by omega)
      clear hl
      generalize (10 : Int) ^ j = P at *
      go_wp2_with fail
      refine (hp _).mono ?_
      rintro e w2 ⟨rfl, rfl⟩
      go_wp2_with fail
      refine wp_region_gr (by kernel_rfl) (by kernel_rfl) ?_
      repeat (go_big_quiet_step ((go_at_call 50; exact gr_call (hD _ (hT.on (gr_below _ _))))))
      refine wpQuiet_nil ?_
      intro _ hw'; obtain ⟨w5, hw''⟩ := hw'; subst hw''
      have hB := gr_below w1 w5
      generalize gr w1 w5 = w4 at *
      go_wp2
      go_ret
      exact ⟨rfl, hb.then_ hB⟩

set_option maxRecDepth 10000 in
set_option maxHeartbeats 1000000 in
theorem formatP_none (a b : Int) (w : World) (v1 : Num.val a b = true) (hl : ∀ j, j ≤ 9 → ¬ (10 : Int) ^ j % b = 0) (ht : Tab w) :
    Calls Tryd.prog 21 #[.agg #[.int .i64 a, .int .i64 b]] w fun e w' => e = .returned (.string ⟨(Lib.itoa a ++ [47] ++ Lib.itoa b).toArray⟩) ∧ Below w.heap.size w w' := by
  obtain ⟨k1, k2, k3, k4, k5⟩ := Num.val_iff.1 v1
  have hz : (b == 0) = false := by simp; omega
  have hI := fun w ht => itoa_any a w (by omega) (by omega) ht
  have hJ := fun w ht => itoa_any b w (by omega) (by omega) ht
  have e1 : (⟨(Lib.itoa a ++ [47] ++ Lib.itoa b).toArray⟩ : ByteArray) = ⟨(Lib.itoa a).toArray⟩ ++ ⟨#[47]⟩ ++ ⟨(Lib.itoa b).toArray⟩ := by rw [← mk_append (Lib.itoa a ++ [47]), ← mk_append (Lib.itoa a) [47]]
  rw [e1]
  have s1 : (⟨(Lib.itoa a).toArray⟩ : ByteArray).size ≤ 21 := by rw [size_mk]; exact Lib.itoa_length_le a (by omega) (by omega)
  have s2 : (⟨(Lib.itoa b).toArray⟩ : ByteArray).size ≤ 21 := by rw [size_mk]; exact Lib.itoa_length_le b (by omega) (by omega)
  clear e1
  generalize (⟨(Lib.itoa a).toArray⟩ : ByteArray) = A at *
  generalize (⟨(Lib.itoa b).toArray⟩ : ByteArray) = B at *
  go_enter Tryd.func21, Tryd.ntmps21
  go_wp2_with fail
  refine (valid_any a b _ (by omega) (by omega)).mono ?_
  rintro e w1 ⟨rfl, hb1⟩
  rw [v1]
  go_wp2_with fail
  have KN := (Known.made w 23 #[.int .i64 a, .int .i64 b]).on hb1
  obtain ⟨f0, f1⟩ := KN.two
  have hlt := KN.lt
  have hb := (below_new0 w (.cells #[.int .i64 a, .int .i64 b] 23)).then_ hb1
  have hT : Tab w1 := ht.on hb
  clear KN hb1 v1
  go_loopg [3] 11 (fun g s3 wr => ∃ j : Nat, j ≤ 10 ∧ 10 - j < g ∧ s3 = .int .i64 j ∧ w1 = wr)
  case atStart => exact ⟨0, by omega, by omega, rfl, rfl⟩
  case round =>
    obtain ⟨j, hj, hg, rfl, rfl⟩ := hrel
    by_cases h : j ≤ 9
    · have hm := hl j h
      obtain ⟨q1, q2⟩ := pow_bd j (by omega)
      have hp : ∀ w, Calls Tryd.prog 51 #[.int .i64 j] w fun e w' => e = .returned (.int .i64 (10 ^ j)) ∧ w = w' := fun w => power_any j w (by omega)
      have hm2 : (((10 : Int) ^ j).tmod b == 0) = false := by rw [Int.tmod_eq_emod_of_nonneg (by omega)]; simpa using hm
      have hm3 : ((10 : Int) ^ j % b == 0) = false := by simpa using hm
      have hm4 : 0 ≤ (10 : Int) ^ j % b := Int.emod_nonneg _ (by omega)
      have hm5 : (10 : Int) ^ j % b < b := Int.emod_lt_of_pos _ (by omega)
      clear hl hI hJ hm
      generalize (10 : Int) ^ j = P at *
      go_wp2_with fail
      refine (hp _).mono ?_
      rintro e w2 ⟨rfl, rfl⟩
      go_wp2_with fail
      go_roundg (10 - (j + 1) + 1)
      case measure => omega
      case rel => exact ⟨j + 1, by omega, by omega, rfl, rfl⟩
    · obtain rfl : j = 10 := by omega
      clear hl
      go_wp2_with fail
      refine wp_region_gr (by kernel_rfl) (by kernel_rfl) ?_
      repeat (go_big_quiet_step (first | (go_at_call 53; with_reducible exact gr_call (hI _ (hT.on (gr_below _ _)))) | (go_at_call 53; with_reducible exact gr_call (hJ _ (hT.on (gr_below _ _))))))
      refine wpQuiet_nil ?_
      intro _ hw'; obtain ⟨w5, hw''⟩ := hw'; subst hw''
      have hB := gr_below w1 w5
      generalize gr w1 w5 = w4 at *
      go_wp2
      go_ret
      exact ⟨rfl, hb.then_ hB⟩

set_option maxRecDepth 10000 in
set_option maxHeartbeats 1000000 in
theorem formatR_hit (a b : Int) (k : Nat) (w : World) (v1 : Num.val a b = true) (hk : k ≤ 9) (hit : (10 : Int) ^ k % b = 0) (hl : ∀ j, j < k → ¬ (10 : Int) ^ j % b = 0) (h1 : 1 ≤ (10 : Int) ^ k / b) :
    Calls Tryd.prog 22 #[.agg #[.int .i64 a, .int .i64 b]] w fun e w' => e = .returned (.string ⟨(decZ (a * ((10 : Int) ^ k / b)) k).toArray⟩) ∧ Below w.heap.size w w' := by
  obtain ⟨k1, k2, k3, k4, k5⟩ := Num.val_iff.1 v1
  have hz : (b == 0) = false := by simp; omega
  have hN := fun w => notation_any a b k w k1 k2 k3 k4 hk h1
  generalize decZ (a * ((10 : Int) ^ k / b)) k = R at *
  go_enter Tryd.func22, Tryd.ntmps22
  go_wp2_with fail
  refine (validRef_any a b _ (by omega) (by omega)).mono ?_
  rintro e w1 ⟨rfl, hb1⟩
  rw [v1]
  go_wp2_with fail
  have KN := (Known.made w 23 #[.int .i64 a, .int .i64 b]).on hb1
  have hb := (below_new0 w (.cells #[.int .i64 a, .int .i64 b] 23)).then_ hb1
  clear hb1 v1
  go_loopg [3] (k + 1) (fun g s3 wr => ∃ (j : Nat) (wq : World), j ≤ k ∧ k - j < g ∧ s3 = .int .i64 j ∧ Below w1.heap.size w1 wq ∧ wq = wr)
  case atStart => exact ⟨0, _, by omega, by omega, rfl, Below.refl _ _, rfl⟩
  case round =>
    obtain ⟨j, wr, hj, hg, rfl, hbr, rfl⟩ := hrel
    replace hb := hb.then_ hbr
    replace KN := KN.on hbr
    obtain ⟨f0, f1⟩ := KN.two
    have hlt := KN.lt
    obtain ⟨q1, q2⟩ := pow_bd j (by omega)
    have hp : ∀ w, Calls Tryd.prog 32 #[.int .i64 j] w fun e w' => e = .returned (.int .i64 (10 ^ j)) ∧ w = w' := fun w => powerRef_any j w (by omega)
    by_cases h : j < k
    · have hm := hl j h
      have hm2 : (((10 : Int) ^ j).tmod b == 0) = false := by rw [Int.tmod_eq_emod_of_nonneg (by omega)]; simpa using hm
      have hm3 : ((10 : Int) ^ j % b == 0) = false := by simpa using hm
      have hm4 : 0 ≤ (10 : Int) ^ j % b := Int.emod_nonneg _ (by omega)
      have hm5 : (10 : Int) ^ j % b < b := Int.emod_lt_of_pos _ (by omega)
      clear hl hN hm hit h1
      generalize (10 : Int) ^ j = P at *
      go_wp2_with fail
      refine wp_region_gr (by kernel_rfl) (by kernel_rfl) ?_
      repeat (go_big_quiet_step ((go_at_call 32; exact gr_same (hp _))))
      refine wpQuiet_nil ?_
      intro _ hw'; obtain ⟨w5, hw''⟩ := hw'; subst hw''
      have hB := gr_below wr w5
      generalize gr wr w5 = w4 at *
      go_wp2_with fail
      go_roundg (k - (j + 1) + 1)
      case measure => omega
      case rel => exact ⟨j + 1, _, by omega, by omega, rfl, hbr.then_ hB, rfl⟩
    · obtain rfl : j = k := by omega
      have ht3 : ((10 : Int) ^ j).tmod b = 0 := by rw [Int.tmod_eq_emod_of_nonneg (by omega), hit]
      clear hl h1
      generalize (10 : Int) ^ j = P at *
      go_wp2_with fail
      refine wp_region_gr (by kernel_rfl) (by kernel_rfl) ?_
      repeat (go_big_quiet_step ((go_at_call 32; exact gr_same (hp _))))
      refine wpQuiet_nil ?_
      intro _ hw'; obtain ⟨w5, hw''⟩ := hw'; subst hw''
      have hB := gr_below wr w5
      generalize gr wr w5 = w4 at *
      obtain ⟨g0, g1⟩ := (KN.on hB).two
      clear f0 f1
      go_wp2_with fail
      refine (hN _).mono ?_
      rintro e w6 ⟨rfl, hb6⟩
      go_wp2
      go_ret
      exact ⟨rfl, (hb.then_ hB).then_ hb6⟩

set_option maxRecDepth 10000 in
set_option maxHeartbeats 1000000 in
theorem formatR_none (a b : Int) (w : World) (v1 : Num.val a b = true) (hl : ∀ j, j ≤ 9 → ¬ (10 : Int) ^ j % b = 0) :
    Calls Tryd.prog 22 #[.agg #[.int .i64 a, .int .i64 b]] w fun e w' => e = .returned (.string ⟨(Lib.itoa a ++ [47] ++ Lib.itoa b).toArray⟩) ∧ Below w.heap.size w w' := by
  obtain ⟨k1, k2, k3, k4, k5⟩ := Num.val_iff.1 v1
  have hz : (b == 0) = false := by simp; omega
  have hI := fun w => decimal_any a w (by omega) (by omega)
  have hJ := fun w => decimal_any b w (by omega) (by omega)
  have e1 : (⟨(Lib.itoa a ++ [47] ++ Lib.itoa b).toArray⟩ : ByteArray) = ⟨(Lib.itoa a).toArray⟩ ++ ⟨#[47]⟩ ++ ⟨(Lib.itoa b).toArray⟩ := by rw [← mk_append (Lib.itoa a ++ [47]), ← mk_append (Lib.itoa a) [47]]
  rw [e1]
  have s1 : (⟨(Lib.itoa a).toArray⟩ : ByteArray).size ≤ 21 := by rw [size_mk]; exact Lib.itoa_length_le a (by omega) (by omega)
  have s2 : (⟨(Lib.itoa b).toArray⟩ : ByteArray).size ≤ 21 := by rw [size_mk]; exact Lib.itoa_length_le b (by omega) (by omega)
  clear e1
  generalize (⟨(Lib.itoa a).toArray⟩ : ByteArray) = A at *
  generalize (⟨(Lib.itoa b).toArray⟩ : ByteArray) = B at *
  go_enter Tryd.func22, Tryd.ntmps22
  go_wp2_with fail
  refine (validRef_any a b _ (by omega) (by omega)).mono ?_
  rintro e w1 ⟨rfl, hb1⟩
  rw [v1]
  go_wp2_with fail
  have KN := (Known.made w 23 #[.int .i64 a, .int .i64 b]).on hb1
  have hb := (below_new0 w (.cells #[.int .i64 a, .int .i64 b] 23)).then_ hb1
  clear hb1 v1
  go_loopg [3] 11 (fun g s3 wr => ∃ (j : Nat) (wq : World), j ≤ 10 ∧ 10 - j < g ∧ s3 = .int .i64 j ∧ Below w1.heap.size w1 wq ∧ wq = wr)
  case atStart => exact ⟨0, _, by omega, by omega, rfl, Below.refl _ _, rfl⟩
  case round =>
    obtain ⟨j, wr, hj, hg, rfl, hbr, rfl⟩ := hrel
    replace hb := hb.then_ hbr
    replace KN := KN.on hbr
    obtain ⟨f0, f1⟩ := KN.two
    have hlt := KN.lt
    by_cases h : j ≤ 9
    · have hm := hl j h
      obtain ⟨q1, q2⟩ := pow_bd j (by omega)
      have hp : ∀ w, Calls Tryd.prog 32 #[.int .i64 j] w fun e w' => e = .returned (.int .i64 (10 ^ j)) ∧ w = w' := fun w => powerRef_any j w (by omega)
      have hm2 : (((10 : Int) ^ j).tmod b == 0) = false := by rw [Int.tmod_eq_emod_of_nonneg (by omega)]; simpa using hm
      have hm3 : ((10 : Int) ^ j % b == 0) = false := by simpa using hm
      have hm4 : 0 ≤ (10 : Int) ^ j % b := Int.emod_nonneg _ (by omega)
      have hm5 : (10 : Int) ^ j % b < b := Int.emod_lt_of_pos _ (by omega)
      clear hl hI hJ hm
      generalize (10 : Int) ^ j = P at *
      go_wp2_with fail
      refine wp_region_gr (by kernel_rfl) (by kernel_rfl) ?_
      repeat (go_big_quiet_step ((go_at_call 32; exact gr_same (hp _))))
      refine wpQuiet_nil ?_
      intro _ hw'; obtain ⟨w5, hw''⟩ := hw'; subst hw''
      have hB := gr_below wr w5
      generalize gr wr w5 = w4 at *
      go_wp2_with fail
      go_roundg (10 - (j + 1) + 1)
      case measure => omega
      case rel => exact ⟨j + 1, _, by omega, by omega, rfl, hbr.then_ hB, rfl⟩
    · obtain rfl : j = 10 := by omega
      clear hl
      go_wp2_with fail
      refine wp_region_gr (by kernel_rfl) (by kernel_rfl) ?_
      repeat (go_big_quiet_step (first | (go_at_call 54; with_reducible exact gr_call (hI _)) | (go_at_call 54; with_reducible exact gr_call (hJ _))))
      refine wpQuiet_nil ?_
      intro _ hw'; obtain ⟨w5, hw''⟩ := hw'; subst hw''
      have hB := gr_below wr w5
      generalize gr wr w5 = w4 at *
      go_wp2
      go_ret
      exact ⟨rfl, hb.then_ hB⟩
end Go.Proofs.YtbddbhamkclndaaDoor
