/-
  The claim's own texts, packed. Conditions: those typed in each theorem.
-/
import Derived.Test.YtcklofamaooegaaGreatDoorZKaae
import Derived.Deep.LoopGhost
import Derived.BigRegion
set_option maxHeartbeats 4000000
set_option maxRecDepth 10000
set_option linter.unusedVariables false
namespace Go.Proofs.YtcklofamaooegaaGreatDoor
open Go.RowKit
theorem divisor_any (a b : Int) (w : World) (ha : 0 ≤ a) (hb : 0 ≤ b) (ha2 : a ≤ 9223372036854775807) (hb2 : b ≤ 9223372036854775807) :
  Calls Tryz.prog 116 #[.int .i64 a, .int .i64 b] w fun e w' => e = .returned (.int .i64 (Num.gc a b)) ∧ Below w.heap.size w w' := by
 go_enter Tryz.func116, Tryz.ntmps116
 go_wp2
 go_loopg [0, 1] (b.toNat + 1) (fun g s0 s1 wr => ∃ x y : Int, 0 ≤ x ∧ 0 ≤ y ∧ x ≤ 9223372036854775807 ∧ y ≤ 9223372036854775807 ∧ y.toNat < g ∧ Int.gcd x y = Int.gcd a b ∧ s0 = .int .i64 x ∧ s1 = .int .i64 y ∧ Below w.heap.size w wr)
 case atStart => exact ⟨a, b, ha, hb, ha2, hb2, by omega, rfl, rfl, rfl, Below.refl _ _⟩
 case round =>
  obtain ⟨x, y, hx, hy, hx2, hy2, hg, he, rfl, rfl, hal⟩ := hrel
  by_cases h0 : y = 0
  ·subst h0
   have h1 : Num.gc a b = x := by unfold Num.gc; rw [← he, Int.gcd_zero_right]; omega
   rw [← h1]
   clear hx hx2 he
   go_wp2
   go_ret
   exact ⟨rfl, hal⟩
  ·have h1 : (y != 0) = true := by simp; omega
   have h2 := Int.emod_nonneg x h0
   have h3 := Int.emod_lt_of_pos x (show 0 < y by omega)
   have h4 : x.tmod y = x % y := Int.tmod_eq_emod_of_nonneg hx
   go_wp2
   go_region
   all_goals (try go_wp2)
   all_goals (
    go_roundg ((x % y).toNat + 1)
    case measure => omega
    case rel => exact ⟨y, x % y, hy, h2, hy2, by omega, by omega, by rw [Int.gcd_comm, Num.gcd_mod hx hy, he], rfl, by first | rfl | rw [h4], hal.drew⟩)
theorem gcd_any (a b : Int) (w : World) (ha : 0 ≤ a) (hb : 0 ≤ b) (ha2 : a ≤ 9223372036854775807) (hb2 : b ≤ 9223372036854775807) :
  Calls Tryz.prog 146 #[.int .i64 a, .int .i64 b] w fun e w' => e = .returned (.int .i64 (Num.gc a b)) ∧ Below w.heap.size w w' := by
 go_enter Tryz.func146, Tryz.ntmps146
 go_wp2
 go_loopg [0, 1] (b.toNat + 1) (fun g s0 s1 wr => ∃ x y : Int, 0 ≤ x ∧ 0 ≤ y ∧ x ≤ 9223372036854775807 ∧ y ≤ 9223372036854775807 ∧ y.toNat < g ∧ Int.gcd x y = Int.gcd a b ∧ s0 = .int .i64 x ∧ s1 = .int .i64 y ∧ Below w.heap.size w wr)
 case atStart => exact ⟨a, b, ha, hb, ha2, hb2, by omega, rfl, rfl, rfl, Below.refl _ _⟩
 case round =>
  obtain ⟨x, y, hx, hy, hx2, hy2, hg, he, rfl, rfl, hal⟩ := hrel
  by_cases h0 : y = 0
  ·subst h0
   have h1 : Num.gc a b = x := by unfold Num.gc; rw [← he, Int.gcd_zero_right]; omega
   rw [← h1]
   clear hx hx2 he
   go_wp2
   go_ret
   exact ⟨rfl, hal⟩
  ·have h1 : decide (0 < y) = true := by simp; omega
   have h2 := Int.emod_nonneg x h0
   have h3 := Int.emod_lt_of_pos x (show 0 < y by omega)
   have h4 : x.tmod y = x % y := Int.tmod_eq_emod_of_nonneg hx
   go_wp2
   go_region
   all_goals (try go_wp2)
   all_goals (
    go_roundg ((x % y).toNat + 1)
    case measure => omega
    case rel => exact ⟨y, x % y, hy, h2, hy2, by omega, by omega, by rw [Int.gcd_comm, Num.gcd_mod hx hy, he], rfl, by first | rfl | rw [h4], hal.drew⟩)
theorem size_any (n : Int) (w : World) (h1 : -9223372036854775808 < n) (h2 : n ≤ 9223372036854775807) :
  Calls Tryz.prog 117 #[.int .i64 n] w fun e w' => e = .returned (.int .i64 (max n (-n))) ∧ w = w' := by
 by_cases h : n < 0
 ·rw [show max n (-n) = -n by omega]
  go_enter Tryz.func117, Tryz.ntmps117
  go_wp2
  all_goals first | omega | (go_ret; exact ⟨rfl, rfl⟩)
 ·rw [show max n (-n) = n by omega]
  go_enter Tryz.func117, Tryz.ntmps117
  go_wp2
  all_goals first | omega | (go_ret; exact ⟨rfl, rfl⟩)
theorem abs_any (n : Int) (w : World) (h1 : -9223372036854775808 < n) (h2 : n ≤ 9223372036854775807) :
  Calls Tryz.prog 147 #[.int .i64 n] w fun e w' => e = .returned (.int .i64 (max n (-n))) ∧ w = w' := by
 by_cases h : n < 0
 ·rw [show max n (-n) = -n by omega]
  go_enter Tryz.func147, Tryz.ntmps147
  go_wp2
  go_ret
  exact ⟨rfl, rfl⟩
 ·rw [show max n (-n) = n by omega]
  go_enter Tryz.func147, Tryz.ntmps147
  go_wp2
  go_ret
  exact ⟨rfl, rfl⟩
theorem pow_bd (k : Nat) (h : k ≤ 9) : 1 ≤ (10 : Int) ^ k ∧ (10 : Int) ^ k ≤ 1000000000 := by
 have : k = 0 ∨ k = 1 ∨ k = 2 ∨ k = 3 ∨ k = 4 ∨ k = 5 ∨ k = 6 ∨ k = 7 ∨ k = 8 ∨ k = 9 := by omega
 rcases this with rfl | rfl | rfl | rfl | rfl | rfl | rfl | rfl | rfl | rfl <;> decide
theorem powerRef_any (k : Nat) (w : World) (h : k ≤ 9) :
  Calls Tryz.prog 91 #[.int .i64 k] w fun e w' => e = .returned (.int .i64 (10 ^ k)) ∧ w = w' := by
 go_enter Tryz.func91, Tryz.ntmps91
 go_wp2
 go_loopg [3, 4] (k + 1) (fun g s0 s1 wr => ∃ i : Nat, i ≤ k ∧ k - i < g ∧ s0 = .int .i64 (10 ^ i) ∧ s1 = .int .i64 i ∧ w = wr)
 case atStart => exact ⟨0, by omega, by omega, rfl, rfl, rfl⟩
 case round =>
  obtain ⟨i, hi, hg, rfl, rfl, rfl⟩ := hrel
  by_cases h0 : i < k
  ·obtain ⟨b1, b2⟩ := pow_bd i (by omega)
   have e1 : (10 : Int) ^ (i + 1) = 10 ^ i * 10 := Int.pow_succ 10 i
   generalize (10 : Int) ^ i = P at *
   go_wp2
   go_roundg (k - i)
   case measure => omega
   case rel => exact ⟨i + 1, by omega, by omega, by rw [e1], rfl, rfl⟩
  ·obtain rfl : i = k := by omega
   go_wp2
   go_ret
   exact ⟨rfl, rfl⟩
theorem power_any (k : Nat) (w : World) (h : k ≤ 9) :
  Calls Tryz.prog 57 #[.int .i64 k] w fun e w' => e = .returned (.int .i64 (10 ^ k)) ∧ w = w' := by
 go_enter Tryz.func57, Tryz.ntmps57
 go_wp2
 go_loopg [3, 5] (k + 1) (fun g s0 s1 wr => ∃ i : Nat, i ≤ k ∧ k - i < g ∧ s0 = .int .i64 (10 ^ i) ∧ s1 = .int .i64 i ∧ w = wr)
 case atStart => exact ⟨0, by omega, by omega, rfl, rfl, rfl⟩
 case round =>
  obtain ⟨i, hi, hg, rfl, rfl, rfl⟩ := hrel
  by_cases h0 : i < k
  ·obtain ⟨b1, b2⟩ := pow_bd i (by omega)
   have e1 : (10 : Int) ^ (i + 1) = 10 ^ i * 10 := Int.pow_succ 10 i
   generalize (10 : Int) ^ i = P at *
   go_wp2
   go_roundg (k - i)
   case measure => omega
   case rel => exact ⟨i + 1, by omega, by omega, by rw [e1], rfl, rfl⟩
  ·obtain rfl : i = k := by omega
   go_wp2
   go_ret
   exact ⟨rfl, rfl⟩
theorem reduce_any (n d : Int) (w : World) (hd : d ≠ 0) (n1 : -4000000000000000000 ≤ n) (n2 : n ≤ 4000000000000000000) (d1 : -4000000000000000000 ≤ d) (d2 : d ≤ 4000000000000000000) :
  Calls Tryz.prog 171 #[.int .i64 n, .int .i64 d] w fun e w' => e = .returned (.tuple #[.agg #[.int .i64 (Num.redN n d), .int .i64 (Num.redD n d)], .int .i64 (Num.redE n d)]) ∧ Below w.heap.size w w' := by
 have s1 := Num.sD_pos hd
 have s2 : Num.sN n d = if d < 0 then -n else n := rfl
 have s3 : Num.sD d = if d < 0 then -d else d := rfl
 have g1 := Num.gc_pos n hd
 have e1 := Num.rN_tdiv n d
 have e2 : Num.sD d / Num.gc n d = Num.rD n d := rfl
 have e3 := Num.rN_abs n hd
 have e4 := Num.rD_pos n hd
 have e5 := Num.rD_le n hd
 by_cases o1 : 1000000000 < max (Num.rN n d) (-Num.rN n d)
 ·have hr : Num.rB n d = false := by simp [Num.rB]; omega
  have o1' : decide (1000000000 < max (Num.rN n d) (-Num.rN n d)) = true := by simpa using o1
  simp only [Num.redN, Num.redD, Num.redE, hr, Bool.false_eq_true, if_false]
  by_cases h : d < 0
  ·rw [if_pos h] at s2 s3
   have g0 : Num.gc (max (-n) n) (-d) = Num.gc n d := by have := Num.gc_amount (-n) (-d); rw [Num.gc_neg, Int.neg_neg] at this; exact this
   rw [s2] at e1
   rw [s3] at e2 e5
   have e6 : (-d).tdiv (Num.gc n d) = Num.rD n d := by rw [← e2]; exact Int.tdiv_eq_ediv_of_nonneg (by omega)
   go_enter Tryz.func171, Tryz.ntmps171
   go_wp2_with fail
   refine (size_any (-n) _ (by omega) (by omega)).mono ?_
   rintro e w1 ⟨rfl, rfl⟩
   go_wp2_with fail
   refine (divisor_any _ _ _ (by omega) (by omega) (by omega) (by omega)).mono ?_
   rintro e w2 ⟨rfl, hb2⟩
   rw [g0]
   generalize Num.gc n d = g at *
   have g2 : (g == 0) = false := by simp; omega
   go_wp2_with fail
   go_region
   have hb3 := (below_new0 w (.cells #[.int .i64 0, .int .i64 0] 50)).then_ hb2.drew
   have Kn := (Known.made w 50 #[.int .i64 0, .int .i64 0]).on hb2.drew
   obtain ⟨f0, f1⟩ := Kn.two
   have q0 := Kn.free 0
   have q1 := Kn.free 1
   generalize w2.drew = w3 at *
   clear g0 e1 e2 e6 s2 s3 s1 hb2
   have Kz : Known _ _ _ #[.int .i64 (0), .int .i64 (0)] := (Kn.put 0 (.int .i64 (0))).put 1 (.int .i64 (0))
   obtain ⟨z0, z1⟩ := Kz.two
   go_wp2
   all_goals first
    | (exfalso; omega)
    | exact bodyPost_ret (v := .tuple #[.agg #[.int .i64 (0), .int .i64 (0)], .int .i64 15]) (by simp [results, Tryz.results171, go_sem, z0, z1]) rfl ⟨rfl, (hb3.setCell (p := ⟨w.heap.size, 0, none⟩) (Nat.le_refl _) _).setCell (p := ⟨w.heap.size, 1, none⟩) (Nat.le_refl _) _⟩
  ·rw [if_neg h] at s2 s3
   have g0 : Num.gc (max n (-n)) d = Num.gc n d := Num.gc_amount n d
   rw [s2] at e1
   rw [s3] at e2 e5
   have e6 : (d).tdiv (Num.gc n d) = Num.rD n d := by rw [← e2]; exact Int.tdiv_eq_ediv_of_nonneg (by omega)
   go_enter Tryz.func171, Tryz.ntmps171
   go_wp2_with fail
   refine (size_any (n) _ (by omega) (by omega)).mono ?_
   rintro e w1 ⟨rfl, rfl⟩
   go_wp2_with fail
   refine (divisor_any _ _ _ (by omega) (by omega) (by omega) (by omega)).mono ?_
   rintro e w2 ⟨rfl, hb2⟩
   rw [g0]
   generalize Num.gc n d = g at *
   have g2 : (g == 0) = false := by simp; omega
   go_wp2_with fail
   go_region
   have hb3 := (below_new0 w (.cells #[.int .i64 0, .int .i64 0] 50)).then_ hb2.drew
   have Kn := (Known.made w 50 #[.int .i64 0, .int .i64 0]).on hb2.drew
   obtain ⟨f0, f1⟩ := Kn.two
   have q0 := Kn.free 0
   have q1 := Kn.free 1
   generalize w2.drew = w3 at *
   clear g0 e1 e2 e6 s2 s3 s1 hb2
   have Kz : Known _ _ _ #[.int .i64 (0), .int .i64 (0)] := (Kn.put 0 (.int .i64 (0))).put 1 (.int .i64 (0))
   obtain ⟨z0, z1⟩ := Kz.two
   go_wp2
   all_goals first
    | (exfalso; omega)
    | exact bodyPost_ret (v := .tuple #[.agg #[.int .i64 (0), .int .i64 (0)], .int .i64 15]) (by simp [results, Tryz.results171, go_sem, z0, z1]) rfl ⟨rfl, (hb3.setCell (p := ⟨w.heap.size, 0, none⟩) (Nat.le_refl _) _).setCell (p := ⟨w.heap.size, 1, none⟩) (Nat.le_refl _) _⟩
 ·have o1' : decide (1000000000 < max (Num.rN n d) (-Num.rN n d)) = false := by simpa using o1
  by_cases o2 : 1000000000 < Num.rD n d
  ·have hr : Num.rB n d = false := by simp [Num.rB]; omega
   have o2' : decide (1000000000 < Num.rD n d) = true := by simpa using o2
   simp only [Num.redN, Num.redD, Num.redE, hr, Bool.false_eq_true, if_false]
   by_cases h : d < 0
   ·rw [if_pos h] at s2 s3
    have g0 : Num.gc (max (-n) n) (-d) = Num.gc n d := by have := Num.gc_amount (-n) (-d); rw [Num.gc_neg, Int.neg_neg] at this; exact this
    rw [s2] at e1
    rw [s3] at e2 e5
    have e6 : (-d).tdiv (Num.gc n d) = Num.rD n d := by rw [← e2]; exact Int.tdiv_eq_ediv_of_nonneg (by omega)
    go_enter Tryz.func171, Tryz.ntmps171
    go_wp2_with fail
    refine (size_any (-n) _ (by omega) (by omega)).mono ?_
    rintro e w1 ⟨rfl, rfl⟩
    go_wp2_with fail
    refine (divisor_any _ _ _ (by omega) (by omega) (by omega) (by omega)).mono ?_
    rintro e w2 ⟨rfl, hb2⟩
    rw [g0]
    generalize Num.gc n d = g at *
    have g2 : (g == 0) = false := by simp; omega
    go_wp2_with fail
    go_region
    have hb3 := (below_new0 w (.cells #[.int .i64 0, .int .i64 0] 50)).then_ hb2.drew
    have Kn := (Known.made w 50 #[.int .i64 0, .int .i64 0]).on hb2.drew
    obtain ⟨f0, f1⟩ := Kn.two
    have q0 := Kn.free 0
    have q1 := Kn.free 1
    generalize w2.drew = w3 at *
    clear g0 e1 e2 e6 s2 s3 s1 hb2
    have Kz : Known _ _ _ #[.int .i64 (0), .int .i64 (0)] := (Kn.put 0 (.int .i64 (0))).put 1 (.int .i64 (0))
    obtain ⟨z0, z1⟩ := Kz.two
    go_wp2
    all_goals first
     | (exfalso; omega)
     | exact bodyPost_ret (v := .tuple #[.agg #[.int .i64 (0), .int .i64 (0)], .int .i64 15]) (by simp [results, Tryz.results171, go_sem, z0, z1]) rfl ⟨rfl, (hb3.setCell (p := ⟨w.heap.size, 0, none⟩) (Nat.le_refl _) _).setCell (p := ⟨w.heap.size, 1, none⟩) (Nat.le_refl _) _⟩
   ·rw [if_neg h] at s2 s3
    have g0 : Num.gc (max n (-n)) d = Num.gc n d := Num.gc_amount n d
    rw [s2] at e1
    rw [s3] at e2 e5
    have e6 : (d).tdiv (Num.gc n d) = Num.rD n d := by rw [← e2]; exact Int.tdiv_eq_ediv_of_nonneg (by omega)
    go_enter Tryz.func171, Tryz.ntmps171
    go_wp2_with fail
    refine (size_any (n) _ (by omega) (by omega)).mono ?_
    rintro e w1 ⟨rfl, rfl⟩
    go_wp2_with fail
    refine (divisor_any _ _ _ (by omega) (by omega) (by omega) (by omega)).mono ?_
    rintro e w2 ⟨rfl, hb2⟩
    rw [g0]
    generalize Num.gc n d = g at *
    have g2 : (g == 0) = false := by simp; omega
    go_wp2_with fail
    go_region
    have hb3 := (below_new0 w (.cells #[.int .i64 0, .int .i64 0] 50)).then_ hb2.drew
    have Kn := (Known.made w 50 #[.int .i64 0, .int .i64 0]).on hb2.drew
    obtain ⟨f0, f1⟩ := Kn.two
    have q0 := Kn.free 0
    have q1 := Kn.free 1
    generalize w2.drew = w3 at *
    clear g0 e1 e2 e6 s2 s3 s1 hb2
    have Kz : Known _ _ _ #[.int .i64 (0), .int .i64 (0)] := (Kn.put 0 (.int .i64 (0))).put 1 (.int .i64 (0))
    obtain ⟨z0, z1⟩ := Kz.two
    go_wp2
    all_goals first
     | (exfalso; omega)
     | exact bodyPost_ret (v := .tuple #[.agg #[.int .i64 (0), .int .i64 (0)], .int .i64 15]) (by simp [results, Tryz.results171, go_sem, z0, z1]) rfl ⟨rfl, (hb3.setCell (p := ⟨w.heap.size, 0, none⟩) (Nat.le_refl _) _).setCell (p := ⟨w.heap.size, 1, none⟩) (Nat.le_refl _) _⟩
  ·have hr : Num.rB n d = true := by simp [Num.rB]; omega
   have o2' : decide (1000000000 < Num.rD n d) = false := by simpa using o2
   simp only [Num.redN, Num.redD, Num.redE, hr, if_true]
   by_cases h : d < 0
   ·rw [if_pos h] at s2 s3
    have g0 : Num.gc (max (-n) n) (-d) = Num.gc n d := by have := Num.gc_amount (-n) (-d); rw [Num.gc_neg, Int.neg_neg] at this; exact this
    rw [s2] at e1
    rw [s3] at e2 e5
    have e6 : (-d).tdiv (Num.gc n d) = Num.rD n d := by rw [← e2]; exact Int.tdiv_eq_ediv_of_nonneg (by omega)
    go_enter Tryz.func171, Tryz.ntmps171
    go_wp2_with fail
    refine (size_any (-n) _ (by omega) (by omega)).mono ?_
    rintro e w1 ⟨rfl, rfl⟩
    go_wp2_with fail
    refine (divisor_any _ _ _ (by omega) (by omega) (by omega) (by omega)).mono ?_
    rintro e w2 ⟨rfl, hb2⟩
    rw [g0]
    generalize Num.gc n d = g at *
    have g2 : (g == 0) = false := by simp; omega
    go_wp2_with fail
    go_region
    have hb3 := (below_new0 w (.cells #[.int .i64 0, .int .i64 0] 50)).then_ hb2.drew
    have Kn := (Known.made w 50 #[.int .i64 0, .int .i64 0]).on hb2.drew
    obtain ⟨f0, f1⟩ := Kn.two
    have q0 := Kn.free 0
    have q1 := Kn.free 1
    generalize w2.drew = w3 at *
    clear g0 e1 e2 e6 s2 s3 s1 hb2
    have Kz : Known _ _ _ #[.int .i64 (Num.rN n d), .int .i64 (Num.rD n d)] := (Kn.put 0 (.int .i64 (Num.rN n d))).put 1 (.int .i64 (Num.rD n d))
    obtain ⟨z0, z1⟩ := Kz.two
    go_wp2
    all_goals first
     | (exfalso; omega)
     | exact bodyPost_ret (v := .tuple #[.agg #[.int .i64 (Num.rN n d), .int .i64 (Num.rD n d)], .int .i64 0]) (by simp [results, Tryz.results171, go_sem, z0, z1]) rfl ⟨rfl, (hb3.setCell (p := ⟨w.heap.size, 0, none⟩) (Nat.le_refl _) _).setCell (p := ⟨w.heap.size, 1, none⟩) (Nat.le_refl _) _⟩
   ·rw [if_neg h] at s2 s3
    have g0 : Num.gc (max n (-n)) d = Num.gc n d := Num.gc_amount n d
    rw [s2] at e1
    rw [s3] at e2 e5
    have e6 : (d).tdiv (Num.gc n d) = Num.rD n d := by rw [← e2]; exact Int.tdiv_eq_ediv_of_nonneg (by omega)
    go_enter Tryz.func171, Tryz.ntmps171
    go_wp2_with fail
    refine (size_any (n) _ (by omega) (by omega)).mono ?_
    rintro e w1 ⟨rfl, rfl⟩
    go_wp2_with fail
    refine (divisor_any _ _ _ (by omega) (by omega) (by omega) (by omega)).mono ?_
    rintro e w2 ⟨rfl, hb2⟩
    rw [g0]
    generalize Num.gc n d = g at *
    have g2 : (g == 0) = false := by simp; omega
    go_wp2_with fail
    go_region
    have hb3 := (below_new0 w (.cells #[.int .i64 0, .int .i64 0] 50)).then_ hb2.drew
    have Kn := (Known.made w 50 #[.int .i64 0, .int .i64 0]).on hb2.drew
    obtain ⟨f0, f1⟩ := Kn.two
    have q0 := Kn.free 0
    have q1 := Kn.free 1
    generalize w2.drew = w3 at *
    clear g0 e1 e2 e6 s2 s3 s1 hb2
    have Kz : Known _ _ _ #[.int .i64 (Num.rN n d), .int .i64 (Num.rD n d)] := (Kn.put 0 (.int .i64 (Num.rN n d))).put 1 (.int .i64 (Num.rD n d))
    obtain ⟨z0, z1⟩ := Kz.two
    go_wp2
    all_goals first
     | (exfalso; omega)
     | exact bodyPost_ret (v := .tuple #[.agg #[.int .i64 (Num.rN n d), .int .i64 (Num.rD n d)], .int .i64 0]) (by simp [results, Tryz.results171, go_sem, z0, z1]) rfl ⟨rfl, (hb3.setCell (p := ⟨w.heap.size, 0, none⟩) (Nat.le_refl _) _).setCell (p := ⟨w.heap.size, 1, none⟩) (Nat.le_refl _) _⟩
theorem form_any (n d : Int) (w : World) (hd : d ≠ 0) (n1 : -4000000000000000000 ≤ n) (n2 : n ≤ 4000000000000000000) (d1 : -4000000000000000000 ≤ d) (d2 : d ≤ 4000000000000000000) :
  Calls Tryz.prog 202 #[.int .i64 n, .int .i64 d] w fun e w' => e = .returned (.tuple #[.agg #[.int .i64 (Num.redN n d), .int .i64 (Num.redD n d)], .int .i64 (Num.redE n d)]) ∧ Below w.heap.size w w' := by
 have s1 := Num.sD_pos hd
 have s2 : Num.sN n d = if d < 0 then -n else n := rfl
 have s3 : Num.sD d = if d < 0 then -d else d := rfl
 have g1 := Num.gc_pos n hd
 have e1 := Num.rN_tdiv n d
 have e2 : Num.sD d / Num.gc n d = Num.rD n d := rfl
 have e3 := Num.rN_abs n hd
 have e4 := Num.rD_pos n hd
 have e5 := Num.rD_le n hd
 by_cases o1 : 1000000000 < max (Num.rN n d) (-Num.rN n d)
 ·have hr : Num.rB n d = false := by simp [Num.rB]; omega
  have o1' : decide (1000000000 < max (Num.rN n d) (-Num.rN n d)) = true := by simpa using o1
  simp only [Num.redN, Num.redD, Num.redE, hr, Bool.false_eq_true, if_false]
  by_cases h : d < 0
  ·rw [if_pos h] at s2 s3
   have g0 : Num.gc (max (-n) n) (-d) = Num.gc n d := by have := Num.gc_amount (-n) (-d); rw [Num.gc_neg, Int.neg_neg] at this; exact this
   rw [s2] at e1
   rw [s3] at e2 e5
   have e6 : (-d).tdiv (Num.gc n d) = Num.rD n d := by rw [← e2]; exact Int.tdiv_eq_ediv_of_nonneg (by omega)
   go_enter Tryz.func202, Tryz.ntmps202
   go_wp2_with fail
   refine (abs_any (-n) _ (by omega) (by omega)).mono ?_
   rintro e w1 ⟨rfl, rfl⟩
   go_wp2_with fail
   refine (gcd_any _ _ _ (by omega) (by omega) (by omega) (by omega)).mono ?_
   rintro e w2 ⟨rfl, hb2⟩
   rw [g0]
   generalize Num.gc n d = g at *
   have g2 : (g == 0) = false := by simp; omega
   go_wp2_with fail
   go_region
   have hb3 := (below_new0 w (.cells #[.int .i64 0, .int .i64 0] 50)).then_ hb2.drew
   have Kn := (Known.made w 50 #[.int .i64 0, .int .i64 0]).on hb2.drew
   obtain ⟨f0, f1⟩ := Kn.two
   have q0 := Kn.free 0
   have q1 := Kn.free 1
   generalize w2.drew = w3 at *
   clear g0 e1 e2 e6 s2 s3 s1 hb2
   have Kz : Known _ _ _ #[.int .i64 (0), .int .i64 (0)] := (Kn.put 0 (.int .i64 (0))).put 1 (.int .i64 (0))
   obtain ⟨z0, z1⟩ := Kz.two
   go_wp2
   all_goals first
    | (exfalso; omega)
    | exact bodyPost_ret (v := .tuple #[.agg #[.int .i64 (0), .int .i64 (0)], .int .i64 15]) (by simp [results, Tryz.results202, go_sem, z0, z1]) rfl ⟨rfl, (hb3.setCell (p := ⟨w.heap.size, 0, none⟩) (Nat.le_refl _) _).setCell (p := ⟨w.heap.size, 1, none⟩) (Nat.le_refl _) _⟩
  ·rw [if_neg h] at s2 s3
   have g0 : Num.gc (max n (-n)) d = Num.gc n d := Num.gc_amount n d
   rw [s2] at e1
   rw [s3] at e2 e5
   have e6 : (d).tdiv (Num.gc n d) = Num.rD n d := by rw [← e2]; exact Int.tdiv_eq_ediv_of_nonneg (by omega)
   go_enter Tryz.func202, Tryz.ntmps202
   go_wp2_with fail
   refine (abs_any (n) _ (by omega) (by omega)).mono ?_
   rintro e w1 ⟨rfl, rfl⟩
   go_wp2_with fail
   refine (gcd_any _ _ _ (by omega) (by omega) (by omega) (by omega)).mono ?_
   rintro e w2 ⟨rfl, hb2⟩
   rw [g0]
   generalize Num.gc n d = g at *
   have g2 : (g == 0) = false := by simp; omega
   go_wp2_with fail
   go_region
   have hb3 := (below_new0 w (.cells #[.int .i64 0, .int .i64 0] 50)).then_ hb2.drew
   have Kn := (Known.made w 50 #[.int .i64 0, .int .i64 0]).on hb2.drew
   obtain ⟨f0, f1⟩ := Kn.two
   have q0 := Kn.free 0
   have q1 := Kn.free 1
   generalize w2.drew = w3 at *
   clear g0 e1 e2 e6 s2 s3 s1 hb2
   have Kz : Known _ _ _ #[.int .i64 (0), .int .i64 (0)] := (Kn.put 0 (.int .i64 (0))).put 1 (.int .i64 (0))
   obtain ⟨z0, z1⟩ := Kz.two
   go_wp2
   all_goals first
    | (exfalso; omega)
    | exact bodyPost_ret (v := .tuple #[.agg #[.int .i64 (0), .int .i64 (0)], .int .i64 15]) (by simp [results, Tryz.results202, go_sem, z0, z1]) rfl ⟨rfl, (hb3.setCell (p := ⟨w.heap.size, 0, none⟩) (Nat.le_refl _) _).setCell (p := ⟨w.heap.size, 1, none⟩) (Nat.le_refl _) _⟩
 ·have o1' : decide (1000000000 < max (Num.rN n d) (-Num.rN n d)) = false := by simpa using o1
  by_cases o2 : 1000000000 < Num.rD n d
  ·have hr : Num.rB n d = false := by simp [Num.rB]; omega
   have o2' : decide (1000000000 < Num.rD n d) = true := by simpa using o2
   simp only [Num.redN, Num.redD, Num.redE, hr, Bool.false_eq_true, if_false]
   by_cases h : d < 0
   ·rw [if_pos h] at s2 s3
    have g0 : Num.gc (max (-n) n) (-d) = Num.gc n d := by have := Num.gc_amount (-n) (-d); rw [Num.gc_neg, Int.neg_neg] at this; exact this
    rw [s2] at e1
    rw [s3] at e2 e5
    have e6 : (-d).tdiv (Num.gc n d) = Num.rD n d := by rw [← e2]; exact Int.tdiv_eq_ediv_of_nonneg (by omega)
    go_enter Tryz.func202, Tryz.ntmps202
    go_wp2_with fail
    refine (abs_any (-n) _ (by omega) (by omega)).mono ?_
    rintro e w1 ⟨rfl, rfl⟩
    go_wp2_with fail
    refine (gcd_any _ _ _ (by omega) (by omega) (by omega) (by omega)).mono ?_
    rintro e w2 ⟨rfl, hb2⟩
    rw [g0]
    generalize Num.gc n d = g at *
    have g2 : (g == 0) = false := by simp; omega
    go_wp2_with fail
    go_region
    have hb3 := (below_new0 w (.cells #[.int .i64 0, .int .i64 0] 50)).then_ hb2.drew
    have Kn := (Known.made w 50 #[.int .i64 0, .int .i64 0]).on hb2.drew
    obtain ⟨f0, f1⟩ := Kn.two
    have q0 := Kn.free 0
    have q1 := Kn.free 1
    generalize w2.drew = w3 at *
    clear g0 e1 e2 e6 s2 s3 s1 hb2
    have Kz : Known _ _ _ #[.int .i64 (0), .int .i64 (0)] := (Kn.put 0 (.int .i64 (0))).put 1 (.int .i64 (0))
    obtain ⟨z0, z1⟩ := Kz.two
    go_wp2
    all_goals first
     | (exfalso; omega)
     | exact bodyPost_ret (v := .tuple #[.agg #[.int .i64 (0), .int .i64 (0)], .int .i64 15]) (by simp [results, Tryz.results202, go_sem, z0, z1]) rfl ⟨rfl, (hb3.setCell (p := ⟨w.heap.size, 0, none⟩) (Nat.le_refl _) _).setCell (p := ⟨w.heap.size, 1, none⟩) (Nat.le_refl _) _⟩
   ·rw [if_neg h] at s2 s3
    have g0 : Num.gc (max n (-n)) d = Num.gc n d := Num.gc_amount n d
    rw [s2] at e1
    rw [s3] at e2 e5
    have e6 : (d).tdiv (Num.gc n d) = Num.rD n d := by rw [← e2]; exact Int.tdiv_eq_ediv_of_nonneg (by omega)
    go_enter Tryz.func202, Tryz.ntmps202
    go_wp2_with fail
    refine (abs_any (n) _ (by omega) (by omega)).mono ?_
    rintro e w1 ⟨rfl, rfl⟩
    go_wp2_with fail
    refine (gcd_any _ _ _ (by omega) (by omega) (by omega) (by omega)).mono ?_
    rintro e w2 ⟨rfl, hb2⟩
    rw [g0]
    generalize Num.gc n d = g at *
    have g2 : (g == 0) = false := by simp; omega
    go_wp2_with fail
    go_region
    have hb3 := (below_new0 w (.cells #[.int .i64 0, .int .i64 0] 50)).then_ hb2.drew
    have Kn := (Known.made w 50 #[.int .i64 0, .int .i64 0]).on hb2.drew
    obtain ⟨f0, f1⟩ := Kn.two
    have q0 := Kn.free 0
    have q1 := Kn.free 1
    generalize w2.drew = w3 at *
    clear g0 e1 e2 e6 s2 s3 s1 hb2
    have Kz : Known _ _ _ #[.int .i64 (0), .int .i64 (0)] := (Kn.put 0 (.int .i64 (0))).put 1 (.int .i64 (0))
    obtain ⟨z0, z1⟩ := Kz.two
    go_wp2
    all_goals first
     | (exfalso; omega)
     | exact bodyPost_ret (v := .tuple #[.agg #[.int .i64 (0), .int .i64 (0)], .int .i64 15]) (by simp [results, Tryz.results202, go_sem, z0, z1]) rfl ⟨rfl, (hb3.setCell (p := ⟨w.heap.size, 0, none⟩) (Nat.le_refl _) _).setCell (p := ⟨w.heap.size, 1, none⟩) (Nat.le_refl _) _⟩
  ·have hr : Num.rB n d = true := by simp [Num.rB]; omega
   have o2' : decide (1000000000 < Num.rD n d) = false := by simpa using o2
   simp only [Num.redN, Num.redD, Num.redE, hr, if_true]
   by_cases h : d < 0
   ·rw [if_pos h] at s2 s3
    have g0 : Num.gc (max (-n) n) (-d) = Num.gc n d := by have := Num.gc_amount (-n) (-d); rw [Num.gc_neg, Int.neg_neg] at this; exact this
    rw [s2] at e1
    rw [s3] at e2 e5
    have e6 : (-d).tdiv (Num.gc n d) = Num.rD n d := by rw [← e2]; exact Int.tdiv_eq_ediv_of_nonneg (by omega)
    go_enter Tryz.func202, Tryz.ntmps202
    go_wp2_with fail
    refine (abs_any (-n) _ (by omega) (by omega)).mono ?_
    rintro e w1 ⟨rfl, rfl⟩
    go_wp2_with fail
    refine (gcd_any _ _ _ (by omega) (by omega) (by omega) (by omega)).mono ?_
    rintro e w2 ⟨rfl, hb2⟩
    rw [g0]
    generalize Num.gc n d = g at *
    have g2 : (g == 0) = false := by simp; omega
    go_wp2_with fail
    go_region
    have hb3 := (below_new0 w (.cells #[.int .i64 0, .int .i64 0] 50)).then_ hb2.drew
    have Kn := (Known.made w 50 #[.int .i64 0, .int .i64 0]).on hb2.drew
    obtain ⟨f0, f1⟩ := Kn.two
    have q0 := Kn.free 0
    have q1 := Kn.free 1
    generalize w2.drew = w3 at *
    clear g0 e1 e2 e6 s2 s3 s1 hb2
    have Kz : Known _ _ _ #[.int .i64 (Num.rN n d), .int .i64 (Num.rD n d)] := (Kn.put 0 (.int .i64 (Num.rN n d))).put 1 (.int .i64 (Num.rD n d))
    obtain ⟨z0, z1⟩ := Kz.two
    go_wp2
    all_goals first
     | (exfalso; omega)
     | exact bodyPost_ret (v := .tuple #[.agg #[.int .i64 (Num.rN n d), .int .i64 (Num.rD n d)], .int .i64 0]) (by simp [results, Tryz.results202, go_sem, z0, z1]) rfl ⟨rfl, (hb3.setCell (p := ⟨w.heap.size, 0, none⟩) (Nat.le_refl _) _).setCell (p := ⟨w.heap.size, 1, none⟩) (Nat.le_refl _) _⟩
   ·rw [if_neg h] at s2 s3
    have g0 : Num.gc (max n (-n)) d = Num.gc n d := Num.gc_amount n d
    rw [s2] at e1
    rw [s3] at e2 e5
    have e6 : (d).tdiv (Num.gc n d) = Num.rD n d := by rw [← e2]; exact Int.tdiv_eq_ediv_of_nonneg (by omega)
    go_enter Tryz.func202, Tryz.ntmps202
    go_wp2_with fail
    refine (abs_any (n) _ (by omega) (by omega)).mono ?_
    rintro e w1 ⟨rfl, rfl⟩
    go_wp2_with fail
    refine (gcd_any _ _ _ (by omega) (by omega) (by omega) (by omega)).mono ?_
    rintro e w2 ⟨rfl, hb2⟩
    rw [g0]
    generalize Num.gc n d = g at *
    have g2 : (g == 0) = false := by simp; omega
    go_wp2_with fail
    go_region
    have hb3 := (below_new0 w (.cells #[.int .i64 0, .int .i64 0] 50)).then_ hb2.drew
    have Kn := (Known.made w 50 #[.int .i64 0, .int .i64 0]).on hb2.drew
    obtain ⟨f0, f1⟩ := Kn.two
    have q0 := Kn.free 0
    have q1 := Kn.free 1
    generalize w2.drew = w3 at *
    clear g0 e1 e2 e6 s2 s3 s1 hb2
    have Kz : Known _ _ _ #[.int .i64 (Num.rN n d), .int .i64 (Num.rD n d)] := (Kn.put 0 (.int .i64 (Num.rN n d))).put 1 (.int .i64 (Num.rD n d))
    obtain ⟨z0, z1⟩ := Kz.two
    go_wp2
    all_goals first
     | (exfalso; omega)
     | exact bodyPost_ret (v := .tuple #[.agg #[.int .i64 (Num.rN n d), .int .i64 (Num.rD n d)], .int .i64 0]) (by simp [results, Tryz.results202, go_sem, z0, z1]) rfl ⟨rfl, (hb3.setCell (p := ⟨w.heap.size, 0, none⟩) (Nat.le_refl _) _).setCell (p := ⟨w.heap.size, 1, none⟩) (Nat.le_refl _) _⟩
def inV (n : Int) : Bool := decide (-1000000000 ≤ n ∧ n ≤ 1000000000)
theorem inV_iff {n : Int} : inV n = true ↔ (-1000000000 ≤ n ∧ n ≤ 1000000000) := by simp [inV]
theorem inV_no {n : Int} : inV n = false ↔ ¬ (-1000000000 ≤ n ∧ n ≤ 1000000000) := by simp [inV]
theorem inside_any (n : Int) (w : World) :
  Calls Tryz.prog 115 #[.int .i64 n] w fun e w' => e = .returned (.bool (inV n)) ∧ w = w' := by
 by_cases h1 : -1000000000 ≤ n
 ·by_cases h2 : n ≤ 1000000000
  ·rw [inV_iff.2 ⟨h1, h2⟩]
   go_enter Tryz.func115, Tryz.ntmps115
   go_wp2
   go_ret
   exact ⟨rfl, rfl⟩
  ·rw [inV_no.2 (by omega)]
   go_enter Tryz.func115, Tryz.ntmps115
   go_wp2
   go_ret
   exact ⟨rfl, rfl⟩
 ·rw [inV_no.2 (by omega)]
  go_enter Tryz.func115, Tryz.ntmps115
  go_wp2
  go_ret
  exact ⟨rfl, rfl⟩
theorem val_gc (n d : Int) (h1 : inV n = true) (h2 : inV d = true) (h3 : 1 ≤ d) : Num.val n d = (Num.gc (max n (-n)) d == 1) := by
 rw [Num.gc_amount, Bool.eq_iff_iff, Num.val_iff]
 have := inV_iff.1 h1
 have := inV_iff.1 h2
 simp [Num.gc]
 omega
theorem valid_any (n d : Int) (w : World) (n1 : -9223372036854775808 ≤ n ∧ n ≤ 9223372036854775807) (d1 : -9223372036854775808 ≤ d ∧ d ≤ 9223372036854775807) :
  Calls Tryz.prog 56 #[.agg #[.int .i64 n, .int .i64 d]] w fun e w' => e = .returned (.bool (Num.val n d)) ∧ Below w.heap.size w w' := by
 cases c1 : inV n
 ·have hr : Num.val n d = false := by rw [← Bool.not_eq_true, Num.val_iff]; have := inV_no.1 c1; omega
  have I1 : ∀ w, Calls Tryz.prog 115 #[.int .i64 n] w fun e w' => e = .returned (.bool false) ∧ w = w' := fun w => c1 ▸ inside_any n w
  rw [hr]
  go_enter Tryz.func56, Tryz.ntmps56
  go_wp2
  obtain ⟨f0, f1⟩ := (Known.made w 50 #[.int .i64 n, .int .i64 d]).two
  have hz : w.heap.size < (w.alloc (.cells #[.int .i64 n, .int .i64 d] 50)).heap.size := by simp
  refine wp_region_gr (by kernel_rfl) (by kernel_rfl) ?_
  repeat (go_big_quiet_step (first | (go_at_call 115; with_reducible exact gr_same (I1 _)) | (go_at_call 117; exact gr_same (size_any _ _ (by omega) (by omega))) | (go_at_call 116; exact gr_call (divisor_any _ _ _ (by omega) (by omega) (by omega) (by omega)))))
  refine wpQuiet_nil ?_
  intro _ hw'; obtain ⟨w1, hw''⟩ := hw'; subst hw''
  have hB := gr_below (w.alloc (.cells #[.int .i64 n, .int .i64 d] 50)) w1
  generalize gr (w.alloc (.cells #[.int .i64 n, .int .i64 d] 50)) w1 = w2 at *
  go_wp2
  go_ret
  exact ⟨rfl, (below_new0 w _).then_ hB⟩
 have I1 : ∀ w, Calls Tryz.prog 115 #[.int .i64 n] w fun e w' => e = .returned (.bool true) ∧ w = w' := fun w => c1 ▸ inside_any n w
 cases c2 : inV d
 ·have hr : Num.val n d = false := by rw [← Bool.not_eq_true, Num.val_iff]; have := inV_no.1 c2; omega
  have I2 : ∀ w, Calls Tryz.prog 115 #[.int .i64 d] w fun e w' => e = .returned (.bool false) ∧ w = w' := fun w => c2 ▸ inside_any d w
  rw [hr]
  go_enter Tryz.func56, Tryz.ntmps56
  go_wp2
  obtain ⟨f0, f1⟩ := (Known.made w 50 #[.int .i64 n, .int .i64 d]).two
  have hz : w.heap.size < (w.alloc (.cells #[.int .i64 n, .int .i64 d] 50)).heap.size := by simp
  refine wp_region_gr (by kernel_rfl) (by kernel_rfl) ?_
  repeat (go_big_quiet_step (first | (go_at_call 115; with_reducible exact gr_same (I1 _)) | (go_at_call 115; with_reducible exact gr_same (I2 _)) | (go_at_call 117; exact gr_same (size_any _ _ (by omega) (by omega))) | (go_at_call 116; exact gr_call (divisor_any _ _ _ (by omega) (by omega) (by omega) (by omega)))))
  refine wpQuiet_nil ?_
  intro _ hw'; obtain ⟨w1, hw''⟩ := hw'; subst hw''
  have hB := gr_below (w.alloc (.cells #[.int .i64 n, .int .i64 d] 50)) w1
  generalize gr (w.alloc (.cells #[.int .i64 n, .int .i64 d] 50)) w1 = w2 at *
  go_wp2
  go_ret
  exact ⟨rfl, (below_new0 w _).then_ hB⟩
 have I2 : ∀ w, Calls Tryz.prog 115 #[.int .i64 d] w fun e w' => e = .returned (.bool true) ∧ w = w' := fun w => c2 ▸ inside_any d w
 by_cases c3 : 1 ≤ d
 ·have hr := val_gc n d c1 c2 c3
  have c3' : decide (1 ≤ d) = true := by simpa using c3
  have k1 := inV_iff.1 c1
  have k2 := inV_iff.1 c2
  rw [hr]
  go_enter Tryz.func56, Tryz.ntmps56
  go_wp2
  obtain ⟨f0, f1⟩ := (Known.made w 50 #[.int .i64 n, .int .i64 d]).two
  have hz : w.heap.size < (w.alloc (.cells #[.int .i64 n, .int .i64 d] 50)).heap.size := by simp
  refine wp_region_gr (by kernel_rfl) (by kernel_rfl) ?_
  repeat (go_big_quiet_step (first | (go_at_call 115; with_reducible exact gr_same (I1 _)) | (go_at_call 115; with_reducible exact gr_same (I2 _)) | (go_at_call 117; exact gr_same (size_any _ _ (by omega) (by omega))) | (go_at_call 116; exact gr_call (divisor_any _ _ _ (by omega) (by omega) (by omega) (by omega)))))
  refine wpQuiet_nil ?_
  intro _ hw'; obtain ⟨w1, hw''⟩ := hw'; subst hw''
  have hB := gr_below (w.alloc (.cells #[.int .i64 n, .int .i64 d] 50)) w1
  generalize gr (w.alloc (.cells #[.int .i64 n, .int .i64 d] 50)) w1 = w2 at *
  go_wp2
  go_ret
  exact ⟨rfl, (below_new0 w _).then_ hB⟩
 ·have hr : Num.val n d = false := by rw [← Bool.not_eq_true, Num.val_iff]; omega
  have c3' : decide (1 ≤ d) = false := by simpa using c3
  rw [hr]
  go_enter Tryz.func56, Tryz.ntmps56
  go_wp2
  obtain ⟨f0, f1⟩ := (Known.made w 50 #[.int .i64 n, .int .i64 d]).two
  have hz : w.heap.size < (w.alloc (.cells #[.int .i64 n, .int .i64 d] 50)).heap.size := by simp
  refine wp_region_gr (by kernel_rfl) (by kernel_rfl) ?_
  repeat (go_big_quiet_step (first | (go_at_call 115; with_reducible exact gr_same (I1 _)) | (go_at_call 115; with_reducible exact gr_same (I2 _)) | (go_at_call 117; exact gr_same (size_any _ _ (by omega) (by omega))) | (go_at_call 116; exact gr_call (divisor_any _ _ _ (by omega) (by omega) (by omega) (by omega)))))
  refine wpQuiet_nil ?_
  intro _ hw'; obtain ⟨w1, hw''⟩ := hw'; subst hw''
  have hB := gr_below (w.alloc (.cells #[.int .i64 n, .int .i64 d] 50)) w1
  generalize gr (w.alloc (.cells #[.int .i64 n, .int .i64 d] 50)) w1 = w2 at *
  go_wp2
  go_ret
  exact ⟨rfl, (below_new0 w _).then_ hB⟩
theorem validRef_any (n d : Int) (w : World) (n1 : -9223372036854775808 ≤ n ∧ n ≤ 9223372036854775807) (d1 : -9223372036854775808 ≤ d ∧ d ≤ 9223372036854775807) :
  Calls Tryz.prog 90 #[.agg #[.int .i64 n, .int .i64 d]] w fun e w' => e = .returned (.bool (Num.val n d)) ∧ Below w.heap.size w w' := by
 by_cases c1 : 1 ≤ d
 rotate_left
 ·have c1' : decide (1 ≤ d) = false := by simpa using c1
  have hr : Num.val n d = false := by rw [← Bool.not_eq_true, Num.val_iff]; omega
  rw [hr]
  go_enter Tryz.func90, Tryz.ntmps90
  go_wp2
  obtain ⟨f0, f1⟩ := (Known.made w 50 #[.int .i64 n, .int .i64 d]).two
  have hz : w.heap.size < (w.alloc (.cells #[.int .i64 n, .int .i64 d] 50)).heap.size := by simp
  refine wp_region_gr (by kernel_rfl) (by kernel_rfl) ?_
  repeat (go_big_quiet_step (first | (go_at_call 147; exact gr_same (abs_any _ _ (by omega) (by omega))) | (go_at_call 146; exact gr_call (gcd_any _ _ _ (by omega) (by omega) (by omega) (by omega)))))
  refine wpQuiet_nil ?_
  intro _ hw'; obtain ⟨w1, hw''⟩ := hw'; subst hw''
  have hB := gr_below (w.alloc (.cells #[.int .i64 n, .int .i64 d] 50)) w1
  generalize gr (w.alloc (.cells #[.int .i64 n, .int .i64 d] 50)) w1 = w2 at *
  go_wp2
  go_ret
  exact ⟨rfl, (below_new0 w _).then_ hB⟩
 have c1' : decide (1 ≤ d) = true := by simpa using c1
 by_cases c2 : d ≤ 1000000000
 rotate_left
 ·have c2' : decide (d ≤ 1000000000) = false := by simpa using c2
  have hr : Num.val n d = false := by rw [← Bool.not_eq_true, Num.val_iff]; omega
  rw [hr]
  go_enter Tryz.func90, Tryz.ntmps90
  go_wp2
  obtain ⟨f0, f1⟩ := (Known.made w 50 #[.int .i64 n, .int .i64 d]).two
  have hz : w.heap.size < (w.alloc (.cells #[.int .i64 n, .int .i64 d] 50)).heap.size := by simp
  refine wp_region_gr (by kernel_rfl) (by kernel_rfl) ?_
  repeat (go_big_quiet_step (first | (go_at_call 147; exact gr_same (abs_any _ _ (by omega) (by omega))) | (go_at_call 146; exact gr_call (gcd_any _ _ _ (by omega) (by omega) (by omega) (by omega)))))
  refine wpQuiet_nil ?_
  intro _ hw'; obtain ⟨w1, hw''⟩ := hw'; subst hw''
  have hB := gr_below (w.alloc (.cells #[.int .i64 n, .int .i64 d] 50)) w1
  generalize gr (w.alloc (.cells #[.int .i64 n, .int .i64 d] 50)) w1 = w2 at *
  go_wp2
  go_ret
  exact ⟨rfl, (below_new0 w _).then_ hB⟩
 have c2' : decide (d ≤ 1000000000) = true := by simpa using c2
 by_cases c3 : -1000000000 ≤ n
 rotate_left
 ·have c3' : decide (-1000000000 ≤ n) = false := by simpa using c3
  have hr : Num.val n d = false := by rw [← Bool.not_eq_true, Num.val_iff]; omega
  rw [hr]
  go_enter Tryz.func90, Tryz.ntmps90
  go_wp2
  obtain ⟨f0, f1⟩ := (Known.made w 50 #[.int .i64 n, .int .i64 d]).two
  have hz : w.heap.size < (w.alloc (.cells #[.int .i64 n, .int .i64 d] 50)).heap.size := by simp
  refine wp_region_gr (by kernel_rfl) (by kernel_rfl) ?_
  repeat (go_big_quiet_step (first | (go_at_call 147; exact gr_same (abs_any _ _ (by omega) (by omega))) | (go_at_call 146; exact gr_call (gcd_any _ _ _ (by omega) (by omega) (by omega) (by omega)))))
  refine wpQuiet_nil ?_
  intro _ hw'; obtain ⟨w1, hw''⟩ := hw'; subst hw''
  have hB := gr_below (w.alloc (.cells #[.int .i64 n, .int .i64 d] 50)) w1
  generalize gr (w.alloc (.cells #[.int .i64 n, .int .i64 d] 50)) w1 = w2 at *
  go_wp2
  go_ret
  exact ⟨rfl, (below_new0 w _).then_ hB⟩
 have c3' : decide (-1000000000 ≤ n) = true := by simpa using c3
 by_cases c4 : n ≤ 1000000000
 rotate_left
 ·have c4' : decide (n ≤ 1000000000) = false := by simpa using c4
  have hr : Num.val n d = false := by rw [← Bool.not_eq_true, Num.val_iff]; omega
  rw [hr]
  go_enter Tryz.func90, Tryz.ntmps90
  go_wp2
  obtain ⟨f0, f1⟩ := (Known.made w 50 #[.int .i64 n, .int .i64 d]).two
  have hz : w.heap.size < (w.alloc (.cells #[.int .i64 n, .int .i64 d] 50)).heap.size := by simp
  refine wp_region_gr (by kernel_rfl) (by kernel_rfl) ?_
  repeat (go_big_quiet_step (first | (go_at_call 147; exact gr_same (abs_any _ _ (by omega) (by omega))) | (go_at_call 146; exact gr_call (gcd_any _ _ _ (by omega) (by omega) (by omega) (by omega)))))
  refine wpQuiet_nil ?_
  intro _ hw'; obtain ⟨w1, hw''⟩ := hw'; subst hw''
  have hB := gr_below (w.alloc (.cells #[.int .i64 n, .int .i64 d] 50)) w1
  generalize gr (w.alloc (.cells #[.int .i64 n, .int .i64 d] 50)) w1 = w2 at *
  go_wp2
  go_ret
  exact ⟨rfl, (below_new0 w _).then_ hB⟩
 ·have c4' : decide (n ≤ 1000000000) = true := by simpa using c4
  have hr := val_gc n d (inV_iff.2 ⟨c3, c4⟩) (inV_iff.2 ⟨by omega, c2⟩) c1
  rw [hr]
  go_enter Tryz.func90, Tryz.ntmps90
  go_wp2
  obtain ⟨f0, f1⟩ := (Known.made w 50 #[.int .i64 n, .int .i64 d]).two
  have hz : w.heap.size < (w.alloc (.cells #[.int .i64 n, .int .i64 d] 50)).heap.size := by simp
  refine wp_region_gr (by kernel_rfl) (by kernel_rfl) ?_
  repeat (go_big_quiet_step (first | (go_at_call 147; exact gr_same (abs_any _ _ (by omega) (by omega))) | (go_at_call 146; exact gr_call (gcd_any _ _ _ (by omega) (by omega) (by omega) (by omega)))))
  refine wpQuiet_nil ?_
  intro _ hw'; obtain ⟨w1, hw''⟩ := hw'; subst hw''
  have hB := gr_below (w.alloc (.cells #[.int .i64 n, .int .i64 d] 50)) w1
  generalize gr (w.alloc (.cells #[.int .i64 n, .int .i64 d] 50)) w1 = w2 at *
  go_wp2
  go_ret
  exact ⟨rfl, (below_new0 w _).then_ hB⟩
def mkB (n d : Int) : Bool := inV n && inV d && !(d == 0)
def mkN (n d : Int) : Int := if mkB n d = true then Num.redN n d else 0
def mkD (n d : Int) : Int := if mkB n d = true then Num.redD n d else 0
def mkE (n d : Int) : Int := if mkB n d = true then Num.redE n d else if (inV n && inV d) = true then 16 else 2
theorem make_any (n d : Int) (w : World) :
  Calls Tryz.prog 175 #[.int .i64 n, .int .i64 d] w fun e w' => e = .returned (.tuple #[.agg #[.int .i64 (mkN n d), .int .i64 (mkD n d)], .int .i64 (mkE n d)]) ∧ Below w.heap.size w w' := by
 have Kn := Known.made w 50 #[.int .i64 0, .int .i64 0]
 have q0 := Kn.free 0
 have q1 := Kn.free 1
 by_cases h1 : -1000000000 ≤ n
 rotate_left
 ·have c : inV n = false := inV_no.2 (by omega)
  simp only [mkN, mkD, mkE, mkB, c, Bool.false_and, Bool.false_eq_true, if_false]
  clear c
  go_enter Tryz.func175, Tryz.ntmps175
  go_wp2
  exact bodyPost_ret (v := .tuple #[.agg #[.int .i64 0, .int .i64 0], .int .i64 2]) (by simp [results, Tryz.results175, go_sem]) rfl ⟨rfl, below_new0 w _⟩
 by_cases h2 : n ≤ 1000000000
 rotate_left
 ·have c : inV n = false := inV_no.2 (by omega)
  simp only [mkN, mkD, mkE, mkB, c, Bool.false_and, Bool.false_eq_true, if_false]
  clear c
  go_enter Tryz.func175, Tryz.ntmps175
  go_wp2
  exact bodyPost_ret (v := .tuple #[.agg #[.int .i64 0, .int .i64 0], .int .i64 2]) (by simp [results, Tryz.results175, go_sem]) rfl ⟨rfl, below_new0 w _⟩
 by_cases h3 : -1000000000 ≤ d
 rotate_left
 ·have c : inV d = false := inV_no.2 (by omega)
  simp only [mkN, mkD, mkE, mkB, c, Bool.and_false, Bool.false_and, Bool.false_eq_true, if_false]
  clear c
  go_enter Tryz.func175, Tryz.ntmps175
  go_wp2
  exact bodyPost_ret (v := .tuple #[.agg #[.int .i64 0, .int .i64 0], .int .i64 2]) (by simp [results, Tryz.results175, go_sem]) rfl ⟨rfl, below_new0 w _⟩
 by_cases h4 : d ≤ 1000000000
 rotate_left
 ·have c : inV d = false := inV_no.2 (by omega)
  simp only [mkN, mkD, mkE, mkB, c, Bool.and_false, Bool.false_and, Bool.false_eq_true, if_false]
  clear c
  go_enter Tryz.func175, Tryz.ntmps175
  go_wp2
  exact bodyPost_ret (v := .tuple #[.agg #[.int .i64 0, .int .i64 0], .int .i64 2]) (by simp [results, Tryz.results175, go_sem]) rfl ⟨rfl, below_new0 w _⟩
 have c1 : inV n = true := inV_iff.2 ⟨h1, h2⟩
 have c2 : inV d = true := inV_iff.2 ⟨h3, h4⟩
 by_cases h5 : d = 0
 ·have c3 : (d == 0) = true := by simpa using h5
  simp only [mkN, mkD, mkE, mkB, c1, c2, c3, Bool.and_self, Bool.not_true, Bool.and_false, Bool.false_eq_true, if_false, if_true]
  clear c1 c2
  go_enter Tryz.func175, Tryz.ntmps175
  go_wp2
  exact bodyPost_ret (v := .tuple #[.agg #[.int .i64 0, .int .i64 0], .int .i64 16]) (by simp [results, Tryz.results175, go_sem]) rfl ⟨rfl, below_new0 w _⟩
 ·have c3 : (d == 0) = false := by simpa using h5
  simp only [mkN, mkD, mkE, mkB, c1, c2, c3, Bool.and_self, Bool.not_false, if_true]
  have I1 : ∀ w, Calls Tryz.prog 115 #[.int .i64 n] w fun e w' => e = .returned (.bool true) ∧ w = w' := fun w => c1 ▸ inside_any n w
  have I2 : ∀ w, Calls Tryz.prog 115 #[.int .i64 d] w fun e w' => e = .returned (.bool true) ∧ w = w' := fun w => c2 ▸ inside_any d w
  clear c1 c2
  go_enter Tryz.func175, Tryz.ntmps175
  go_wp2_with fail
  refine (I1 _).mono ?_
  rintro e w1 ⟨rfl, rfl⟩
  go_wp2_with fail
  refine (I2 _).mono ?_
  rintro e w1 ⟨rfl, rfl⟩
  go_wp2_with fail
  refine (reduce_any n d _ h5 (by omega) (by omega) (by omega) (by omega)).mono ?_
  rintro e w1 ⟨rfl, hb1⟩
  have Kn := Kn.on hb1
  obtain ⟨f0, f1⟩ := Kn.two
  have q0 := Kn.free 0
  have q1 := Kn.free 1
  have Kz : Known _ _ _ #[.int .i64 (Num.redN n d), .int .i64 (Num.redD n d)] := (Kn.put 0 (.int .i64 (Num.redN n d))).put 1 (.int .i64 (Num.redD n d))
  obtain ⟨z0, z1⟩ := Kz.two
  go_wp2
  exact bodyPost_ret (v := .tuple #[.agg #[.int .i64 (Num.redN n d), .int .i64 (Num.redD n d)], .int .i64 (Num.redE n d)]) (by simp [results, Tryz.results175, go_sem, z0, z1]) rfl ⟨rfl, (((below_new0 w _).then_ hb1).setCell (p := ⟨w.heap.size, 0, none⟩) (Nat.le_refl _) _).setCell (p := ⟨w.heap.size, 1, none⟩) (Nat.le_refl _) _⟩
end Go.Proofs.YtcklofamaooegaaGreatDoor
