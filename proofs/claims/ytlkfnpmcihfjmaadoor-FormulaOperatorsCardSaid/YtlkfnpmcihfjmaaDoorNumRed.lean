/-
  The reduced form of a fraction, by the program and by the reference. Conditions: those typed in each theorem.
-/
import Derived.Test.YtlkfnpmcihfjmaaDoorNumWalk1
namespace Go.Proofs.YtlkfnpmcihfjmaaDoor
open Go.RowKit

set_option maxHeartbeats 2000000 in
theorem reduce_any (n d : Int) (w : World) (hd : d ≠ 0) (n1 : -4000000000000000000 ≤ n) (n2 : n ≤ 4000000000000000000) (d1 : -4000000000000000000 ≤ d) (d2 : d ≤ 4000000000000000000) :
    Calls Tryd.prog 59 #[.int .i64 n, .int .i64 d] w fun e w' => e = .returned (.tuple #[.agg #[.int .i64 (Num.redN n d), .int .i64 (Num.redD n d)], .int .i64 (Num.redE n d)]) ∧ Below w.heap.size w w' := by
  have s1 := Num.sD_pos hd
  have s2 : Num.sN n d = if d < 0 then -n else n := rfl
  have s3 : Num.sD d = if d < 0 then -d else d := rfl
  have g1 := Num.gc_pos n hd
  have e1 := Num.rN_tdiv n d
  have e2 : Num.sD d / Num.gc n d = Num.rD n d := rfl
  have e3 := Num.rN_abs n hd
  have e4 := Num.rD_pos n hd
  have e5 := Num.rD_le n hd
  by_cases o1 : 1000000000 < max (Num.rN n d) (-Num.rN n d)
  · have hr : Num.rB n d = false := by simp [Num.rB]; omega
    have o1' : decide (1000000000 < max (Num.rN n d) (-Num.rN n d)) = true := by simpa using o1
    simp only [Num.redN, Num.redD, Num.redE, hr, Bool.false_eq_true, if_false]
    by_cases h : d < 0
    · rw [if_pos h] at s2 s3
      have g0 : Num.gc (max (-n) n) (-d) = Num.gc n d := by have := Num.gc_amount (-n) (-d); rw [Num.gc_neg, Int.neg_neg] at this; exact this
      rw [s2] at e1
      rw [s3] at e2 e5
      have e6 : (-d).tdiv (Num.gc n d) = Num.rD n d := by rw [← e2]; exact Int.tdiv_eq_ediv_of_nonneg (by omega)
      go_enter Tryd.func59, Tryd.ntmps59
      go_wp2_with fail
      refine (size_any (-n) _ (by omega) (by omega)).mono ?_
      rintro e w1 ⟨rfl, rfl⟩
      go_wp2_with fail
      refine (divisor_any _ _ _ (by omega) (by omega) (by omega) (by omega)).mono ?_
      rintro e w2 ⟨rfl, hb2⟩
      rw [g0]
      generalize Num.gc n d = g at *
      have g2 : (g == 0) = false := by simp; omega
      go_wp2_with fail
      go_region
      have hb3 := (below_new0 w (.cells #[.int .i64 0, .int .i64 0] 23)).then_ hb2.drew
      have Kn := (Known.made w 23 #[.int .i64 0, .int .i64 0]).on hb2.drew
      obtain ⟨f0, f1⟩ := Kn.two
      have q0 := Kn.free 0
      have q1 := Kn.free 1
      generalize w2.drew = w3 at *
      clear g0 e1 e2 e6 s2 s3 s1 hb2
      have Kz : Known _ _ _ #[.int .i64 (0), .int .i64 (0)] := (Kn.put 0 (.int .i64 (0))).put 1 (.int .i64 (0))
      obtain ⟨z0, z1⟩ := Kz.two
      go_wp2
      all_goals first
        | (exfalso; omega)
        | exact bodyPost_ret (v := .tuple #[.agg #[.int .i64 (0), .int .i64 (0)], .int .i64 15]) (by simp [results, Tryd.results59, go_sem, z0, z1]) rfl ⟨rfl, (hb3.setCell (p := ⟨w.heap.size, 0, none⟩) (Nat.le_refl _) _).setCell (p := ⟨w.heap.size, 1, none⟩) (Nat.le_refl _) _⟩
    · rw [if_neg h] at s2 s3
      have g0 : Num.gc (max n (-n)) d = Num.gc n d := Num.gc_amount n d
      rw [s2] at e1
      rw [s3] at e2 e5
      have e6 : (d).tdiv (Num.gc n d) = Num.rD n d := by rw [← e2]; exact Int.tdiv_eq_ediv_of_nonneg (by omega)
      go_enter Tryd.func59, Tryd.ntmps59
      go_wp2_with fail
      refine (size_any (n) _ (by omega) (by omega)).mono ?_
      rintro e w1 ⟨rfl, rfl⟩
      go_wp2_with fail
      refine (divisor_any _ _ _ (by omega) (by omega) (by omega) (by omega)).mono ?_
      rintro e w2 ⟨rfl, hb2⟩
      rw [g0]
      generalize Num.gc n d = g at *
      have g2 : (g == 0) = false := by simp; omega
      go_wp2_with fail
      go_region
      have hb3 := (below_new0 w (.cells #[.int .i64 0, .int .i64 0] 23)).then_ hb2.drew
      have Kn := (Known.made w 23 #[.int .i64 0, .int .i64 0]).on hb2.drew
      obtain ⟨f0, f1⟩ := Kn.two
      have q0 := Kn.free 0
      have q1 := Kn.free 1
      generalize w2.drew = w3 at *
      clear g0 e1 e2 e6 s2 s3 s1 hb2
      have Kz : Known _ _ _ #[.int .i64 (0), .int .i64 (0)] := (Kn.put 0 (.int .i64 (0))).put 1 (.int .i64 (0))
      obtain ⟨z0, z1⟩ := Kz.two
      go_wp2
      all_goals first
        | (exfalso; omega)
        | exact bodyPost_ret (v := .tuple #[.agg #[.int .i64 (0), .int .i64 (0)], .int .i64 15]) (by simp [results, Tryd.results59, go_sem, z0, z1]) rfl ⟨rfl, (hb3.setCell (p := ⟨w.heap.size, 0, none⟩) (Nat.le_refl _) _).setCell (p := ⟨w.heap.size, 1, none⟩) (Nat.le_refl _) _⟩
  · have o1' : decide (1000000000 < max (Num.rN n d) (-Num.rN n d)) = false := by simpa using o1
    by_cases o2 : 1000000000 < Num.rD n d
    · have hr : Num.rB n d = false := by simp [Num.rB]; omega
      have o2' : decide (1000000000 < Num.rD n d) = true := by simpa using o2
      simp only [Num.redN, Num.redD, Num.redE, hr, Bool.false_eq_true, if_false]
      by_cases h : d < 0
      · rw [if_pos h] at s2 s3
        have g0 : Num.gc (max (-n) n) (-d) = Num.gc n d := by have := Num.gc_amount (-n) (-d); rw [Num.gc_neg, Int.neg_neg] at this; exact this
        rw [s2] at e1
        rw [s3] at e2 e5
        have e6 : (-d).tdiv (Num.gc n d) = Num.rD n d := by rw [← e2]; exact Int.tdiv_eq_ediv_of_nonneg (by omega)
        go_enter Tryd.func59, Tryd.ntmps59
        go_wp2_with fail
        refine (size_any (-n) _ (by omega) (by omega)).mono ?_
        rintro e w1 ⟨rfl, rfl⟩
        go_wp2_with fail
        refine (divisor_any _ _ _ (by omega) (by omega) (by omega) (by omega)).mono ?_
        rintro e w2 ⟨rfl, hb2⟩
        rw [g0]
        generalize Num.gc n d = g at *
        have g2 : (g == 0) = false := by simp; omega
        go_wp2_with fail
        go_region
        have hb3 := (below_new0 w (.cells #[.int .i64 0, .int .i64 0] 23)).then_ hb2.drew
        have Kn := (Known.made w 23 #[.int .i64 0, .int .i64 0]).on hb2.drew
        obtain ⟨f0, f1⟩ := Kn.two
        have q0 := Kn.free 0
        have q1 := Kn.free 1
        generalize w2.drew = w3 at *
        clear g0 e1 e2 e6 s2 s3 s1 hb2
        have Kz : Known _ _ _ #[.int .i64 (0), .int .i64 (0)] := (Kn.put 0 (.int .i64 (0))).put 1 (.int .i64 (0))
        obtain ⟨z0, z1⟩ := Kz.two
        go_wp2
        all_goals first
          | (exfalso; omega)
          | exact bodyPost_ret (v := .tuple #[.agg #[.int .i64 (0), .int .i64 (0)], .int .i64 15]) (by simp [results, Tryd.results59, go_sem, z0, z1]) rfl ⟨rfl, (hb3.setCell (p := ⟨w.heap.size, 0, none⟩) (Nat.le_refl _) _).setCell (p := ⟨w.heap.size, 1, none⟩) (Nat.le_refl _) _⟩
      · rw [if_neg h] at s2 s3
        have g0 : Num.gc (max n (-n)) d = Num.gc n d := Num.gc_amount n d
        rw [s2] at e1
        rw [s3] at e2 e5
        have e6 : (d).tdiv (Num.gc n d) = Num.rD n d := by rw [← e2]; exact Int.tdiv_eq_ediv_of_nonneg (by omega)
        go_enter Tryd.func59, Tryd.ntmps59
        go_wp2_with fail
        refine (size_any (n) _ (by omega) (by omega)).mono ?_
        rintro e w1 ⟨rfl, rfl⟩
        go_wp2_with fail
        refine (divisor_any _ _ _ (by omega) (by omega) (by omega) (by omega)).mono ?_
        rintro e w2 ⟨rfl, hb2⟩
        rw [g0]
        generalize Num.gc n d = g at *
        have g2 : (g == 0) = false := by simp; omega
        go_wp2_with fail
        go_region
        have hb3 := (below_new0 w (.cells #[.int .i64 0, .int .i64 0] 23)).then_ hb2.drew
        have Kn := (Known.made w 23 #[.int .i64 0, .int .i64 0]).on hb2.drew
        obtain ⟨f0, f1⟩ := Kn.two
        have q0 := Kn.free 0
        have q1 := Kn.free 1
        generalize w2.drew = w3 at *
        clear g0 e1 e2 e6 s2 s3 s1 hb2
        have Kz : Known _ _ _ #[.int .i64 (0), .int .i64 (0)] := (Kn.put 0 (.int .i64 (0))).put 1 (.int .i64 (0))
        obtain ⟨z0, z1⟩ := Kz.two
        go_wp2
        all_goals first
          | (exfalso; omega)
          | exact bodyPost_ret (v := .tuple #[.agg #[.int .i64 (0), .int .i64 (0)], .int .i64 15]) (by simp [results, Tryd.results59, go_sem, z0, z1]) rfl ⟨rfl, (hb3.setCell (p := ⟨w.heap.size, 0, none⟩) (Nat.le_refl _) _).setCell (p := ⟨w.heap.size, 1, none⟩) (Nat.le_refl _) _⟩
    · have hr : Num.rB n d = true := by simp [Num.rB]; omega
      have o2' : decide (1000000000 < Num.rD n d) = false := by simpa using o2
      simp only [Num.redN, Num.redD, Num.redE, hr, if_true]
      by_cases h : d < 0
      · rw [if_pos h] at s2 s3
        have g0 : Num.gc (max (-n) n) (-d) = Num.gc n d := by have := Num.gc_amount (-n) (-d); rw [Num.gc_neg, Int.neg_neg] at this; exact this
        rw [s2] at e1
        rw [s3] at e2 e5
        have e6 : (-d).tdiv (Num.gc n d) = Num.rD n d := by rw [← e2]; exact Int.tdiv_eq_ediv_of_nonneg (by omega)
        go_enter Tryd.func59, Tryd.ntmps59
        go_wp2_with fail
        refine (size_any (-n) _ (by omega) (by omega)).mono ?_
        rintro e w1 ⟨rfl, rfl⟩
        go_wp2_with fail
        refine (divisor_any _ _ _ (by omega) (by omega) (by omega) (by omega)).mono ?_
        rintro e w2 ⟨rfl, hb2⟩
        rw [g0]
        generalize Num.gc n d = g at *
        have g2 : (g == 0) = false := by simp; omega
        go_wp2_with fail
        go_region
        have hb3 := (below_new0 w (.cells #[.int .i64 0, .int .i64 0] 23)).then_ hb2.drew
        have Kn := (Known.made w 23 #[.int .i64 0, .int .i64 0]).on hb2.drew
        obtain ⟨f0, f1⟩ := Kn.two
        have q0 := Kn.free 0
        have q1 := Kn.free 1
        generalize w2.drew = w3 at *
        clear g0 e1 e2 e6 s2 s3 s1 hb2
        have Kz : Known _ _ _ #[.int .i64 (Num.rN n d), .int .i64 (Num.rD n d)] := (Kn.put 0 (.int .i64 (Num.rN n d))).put 1 (.int .i64 (Num.rD n d))
        obtain ⟨z0, z1⟩ := Kz.two
        go_wp2
        all_goals first
          | (exfalso; omega)
          | exact bodyPost_ret (v := .tuple #[.agg #[.int .i64 (Num.rN n d), .int .i64 (Num.rD n d)], .int .i64 0]) (by simp [results, Tryd.results59, go_sem, z0, z1]) rfl ⟨rfl, (hb3.setCell (p := ⟨w.heap.size, 0, none⟩) (Nat.le_refl _) _).setCell (p := ⟨w.heap.size, 1, none⟩) (Nat.le_refl _) _⟩
      · rw [if_neg h] at s2 s3
        have g0 : Num.gc (max n (-n)) d = Num.gc n d := Num.gc_amount n d
        rw [s2] at e1
        rw [s3] at e2 e5
        have e6 : (d).tdiv (Num.gc n d) = Num.rD n d := by rw [← e2]; exact Int.tdiv_eq_ediv_of_nonneg (by omega)
        go_enter Tryd.func59, Tryd.ntmps59
        go_wp2_with fail
        refine (size_any (n) _ (by omega) (by omega)).mono ?_
        rintro e w1 ⟨rfl, rfl⟩
        go_wp2_with fail
        refine (divisor_any _ _ _ (by omega) (by omega) (by omega) (by omega)).mono ?_
        rintro e w2 ⟨rfl, hb2⟩
        rw [g0]
        generalize Num.gc n d = g at *
        have g2 : (g == 0) = false := by simp; omega
        go_wp2_with fail
        go_region
        have hb3 := (below_new0 w (.cells #[.int .i64 0, .int .i64 0] 23)).then_ hb2.drew
        have Kn := (Known.made w 23 #[.int .i64 0, .int .i64 0]).on hb2.drew
        obtain ⟨f0, f1⟩ := Kn.two
        have q0 := Kn.free 0
        have q1 := Kn.free 1
        generalize w2.drew = w3 at *
        clear g0 e1 e2 e6 s2 s3 s1 hb2
        have Kz : Known _ _ _ #[.int .i64 (Num.rN n d), .int .i64 (Num.rD n d)] := (Kn.put 0 (.int .i64 (Num.rN n d))).put 1 (.int .i64 (Num.rD n d))
        obtain ⟨z0, z1⟩ := Kz.two
        go_wp2
        all_goals first
          | (exfalso; omega)
          | exact bodyPost_ret (v := .tuple #[.agg #[.int .i64 (Num.rN n d), .int .i64 (Num.rD n d)], .int .i64 0]) (by simp [results, Tryd.results59, go_sem, z0, z1]) rfl ⟨rfl, (hb3.setCell (p := ⟨w.heap.size, 0, none⟩) (Nat.le_refl _) _).setCell (p := ⟨w.heap.size, 1, none⟩) (Nat.le_refl _) _⟩

set_option maxHeartbeats 2000000 in
theorem form_any (n d : Int) (w : World) (hd : d ≠ 0) (n1 : -4000000000000000000 ≤ n) (n2 : n ≤ 4000000000000000000) (d1 : -4000000000000000000 ≤ d) (d2 : d ≤ 4000000000000000000) :
    Calls Tryd.prog 28 #[.int .i64 n, .int .i64 d] w fun e w' => e = .returned (.tuple #[.agg #[.int .i64 (Num.redN n d), .int .i64 (Num.redD n d)], .int .i64 (Num.redE n d)]) ∧ Below w.heap.size w w' := by
  have s1 := Num.sD_pos hd
  have s2 : Num.sN n d = if d < 0 then -n else n := rfl
  have s3 : Num.sD d = if d < 0 then -d else d := rfl
  have g1 := Num.gc_pos n hd
  have e1 := Num.rN_tdiv n d
  have e2 : Num.sD d / Num.gc n d = Num.rD n d := rfl
  have e3 := Num.rN_abs n hd
  have e4 := Num.rD_pos n hd
  have e5 := Num.rD_le n hd
  by_cases o1 : 1000000000 < max (Num.rN n d) (-Num.rN n d)
  · have hr : Num.rB n d = false := by simp [Num.rB]; omega
    have o1' : decide (1000000000 < max (Num.rN n d) (-Num.rN n d)) = true := by simpa using o1
    simp only [Num.redN, Num.redD, Num.redE, hr, Bool.false_eq_true, if_false]
    by_cases h : d < 0
    · rw [if_pos h] at s2 s3
      have g0 : Num.gc (max (-n) n) (-d) = Num.gc n d := by have := Num.gc_amount (-n) (-d); rw [Num.gc_neg, Int.neg_neg] at this; exact this
      rw [s2] at e1
      rw [s3] at e2 e5
      have e6 : (-d).tdiv (Num.gc n d) = Num.rD n d := by rw [← e2]; exact Int.tdiv_eq_ediv_of_nonneg (by omega)
      go_enter Tryd.func28, Tryd.ntmps28
      go_wp2_with fail
      refine (abs_any (-n) _ (by omega) (by omega)).mono ?_
      rintro e w1 ⟨rfl, rfl⟩
      go_wp2_with fail
      refine (gcd_any _ _ _ (by omega) (by omega) (by omega) (by omega)).mono ?_
      rintro e w2 ⟨rfl, hb2⟩
      rw [g0]
      generalize Num.gc n d = g at *
      have g2 : (g == 0) = false := by simp; omega
      go_wp2_with fail
      go_region
      have hb3 := (below_new0 w (.cells #[.int .i64 0, .int .i64 0] 23)).then_ hb2.drew
      have Kn := (Known.made w 23 #[.int .i64 0, .int .i64 0]).on hb2.drew
      obtain ⟨f0, f1⟩ := Kn.two
      have q0 := Kn.free 0
      have q1 := Kn.free 1
      generalize w2.drew = w3 at *
      clear g0 e1 e2 e6 s2 s3 s1 hb2
      have Kz : Known _ _ _ #[.int .i64 (0), .int .i64 (0)] := (Kn.put 0 (.int .i64 (0))).put 1 (.int .i64 (0))
      obtain ⟨z0, z1⟩ := Kz.two
      go_wp2
      all_goals first
        | (exfalso; omega)
        | exact bodyPost_ret (v := .tuple #[.agg #[.int .i64 (0), .int .i64 (0)], .int .i64 15]) (by simp [results, Tryd.results28, go_sem, z0, z1]) rfl ⟨rfl, (hb3.setCell (p := ⟨w.heap.size, 0, none⟩) (Nat.le_refl _) _).setCell (p := ⟨w.heap.size, 1, none⟩) (Nat.le_refl _) _⟩
    · rw [if_neg h] at s2 s3
      have g0 : Num.gc (max n (-n)) d = Num.gc n d := Num.gc_amount n d
      rw [s2] at e1
      rw [s3] at e2 e5
      have e6 : (d).tdiv (Num.gc n d) = Num.rD n d := by rw [← e2]; exact Int.tdiv_eq_ediv_of_nonneg (by omega)
      go_enter Tryd.func28, Tryd.ntmps28
      go_wp2_with fail
      refine (abs_any (n) _ (by omega) (by omega)).mono ?_
      rintro e w1 ⟨rfl, rfl⟩
      go_wp2_with fail
      refine (gcd_any _ _ _ (by omega) (by omega) (by omega) (by omega)).mono ?_
      rintro e w2 ⟨rfl, hb2⟩
      rw [g0]
      generalize Num.gc n d = g at *
      have g2 : (g == 0) = false := by simp; omega
      go_wp2_with fail
      go_region
      have hb3 := (below_new0 w (.cells #[.int .i64 0, .int .i64 0] 23)).then_ hb2.drew
      have Kn := (Known.made w 23 #[.int .i64 0, .int .i64 0]).on hb2.drew
      obtain ⟨f0, f1⟩ := Kn.two
      have q0 := Kn.free 0
      have q1 := Kn.free 1
      generalize w2.drew = w3 at *
      clear g0 e1 e2 e6 s2 s3 s1 hb2
      have Kz : Known _ _ _ #[.int .i64 (0), .int .i64 (0)] := (Kn.put 0 (.int .i64 (0))).put 1 (.int .i64 (0))
      obtain ⟨z0, z1⟩ := Kz.two
      go_wp2
      all_goals first
        | (exfalso; omega)
        | exact bodyPost_ret (v := .tuple #[.agg #[.int .i64 (0), .int .i64 (0)], .int .i64 15]) (by simp [results, Tryd.results28, go_sem, z0, z1]) rfl ⟨rfl, (hb3.setCell (p := ⟨w.heap.size, 0, none⟩) (Nat.le_refl _) _).setCell (p := ⟨w.heap.size, 1, none⟩) (Nat.le_refl _) _⟩
  · have o1' : decide (1000000000 < max (Num.rN n d) (-Num.rN n d)) = false := by simpa using o1
    by_cases o2 : 1000000000 < Num.rD n d
    · have hr : Num.rB n d = false := by simp [Num.rB]; omega
      have o2' : decide (1000000000 < Num.rD n d) = true := by simpa using o2
      simp only [Num.redN, Num.redD, Num.redE, hr, Bool.false_eq_true, if_false]
      by_cases h : d < 0
      · rw [if_pos h] at s2 s3
        have g0 : Num.gc (max (-n) n) (-d) = Num.gc n d := by have := Num.gc_amount (-n) (-d); rw [Num.gc_neg, Int.neg_neg] at this; exact this
        rw [s2] at e1
        rw [s3] at e2 e5
        have e6 : (-d).tdiv (Num.gc n d) = Num.rD n d := by rw [← e2]; exact Int.tdiv_eq_ediv_of_nonneg (by omega)
        go_enter Tryd.func28, Tryd.ntmps28
        go_wp2_with fail
        refine (abs_any (-n) _ (by omega) (by omega)).mono ?_
        rintro e w1 ⟨rfl, rfl⟩
        go_wp2_with fail
        refine (gcd_any _ _ _ (by omega) (by omega) (by omega) (by omega)).mono ?_
        rintro e w2 ⟨rfl, hb2⟩
        rw [g0]
        generalize Num.gc n d = g at *
        have g2 : (g == 0) = false := by simp; omega
        go_wp2_with fail
        go_region
        have hb3 := (below_new0 w (.cells #[.int .i64 0, .int .i64 0] 23)).then_ hb2.drew
        have Kn := (Known.made w 23 #[.int .i64 0, .int .i64 0]).on hb2.drew
        obtain ⟨f0, f1⟩ := Kn.two
        have q0 := Kn.free 0
        have q1 := Kn.free 1
        generalize w2.drew = w3 at *
        clear g0 e1 e2 e6 s2 s3 s1 hb2
        have Kz : Known _ _ _ #[.int .i64 (0), .int .i64 (0)] := (Kn.put 0 (.int .i64 (0))).put 1 (.int .i64 (0))
        obtain ⟨z0, z1⟩ := Kz.two
        go_wp2
        all_goals first
          | (exfalso; omega)
          | exact bodyPost_ret (v := .tuple #[.agg #[.int .i64 (0), .int .i64 (0)], .int .i64 15]) (by simp [results, Tryd.results28, go_sem, z0, z1]) rfl ⟨rfl, (hb3.setCell (p := ⟨w.heap.size, 0, none⟩) (Nat.le_refl _) _).setCell (p := ⟨w.heap.size, 1, none⟩) (Nat.le_refl _) _⟩
      · rw [if_neg h] at s2 s3
        have g0 : Num.gc (max n (-n)) d = Num.gc n d := Num.gc_amount n d
        rw [s2] at e1
        rw [s3] at e2 e5
        have e6 : (d).tdiv (Num.gc n d) = Num.rD n d := by rw [← e2]; exact Int.tdiv_eq_ediv_of_nonneg (by omega)
        go_enter Tryd.func28, Tryd.ntmps28
        go_wp2_with fail
        refine (abs_any (n) _ (by omega) (by omega)).mono ?_
        rintro e w1 ⟨rfl, rfl⟩
        go_wp2_with fail
        refine (gcd_any _ _ _ (by omega) (by omega) (by omega) (by omega)).mono ?_
        rintro e w2 ⟨rfl, hb2⟩
        rw [g0]
        generalize Num.gc n d = g at *
        have g2 : (g == 0) = false := by simp; omega
        go_wp2_with fail
        go_region
        have hb3 := (below_new0 w (.cells #[.int .i64 0, .int .i64 0] 23)).then_ hb2.drew
        have Kn := (Known.made w 23 #[.int .i64 0, .int .i64 0]).on hb2.drew
        obtain ⟨f0, f1⟩ := Kn.two
        have q0 := Kn.free 0
        have q1 := Kn.free 1
        generalize w2.drew = w3 at *
        clear g0 e1 e2 e6 s2 s3 s1 hb2
        have Kz : Known _ _ _ #[.int .i64 (0), .int .i64 (0)] := (Kn.put 0 (.int .i64 (0))).put 1 (.int .i64 (0))
        obtain ⟨z0, z1⟩ := Kz.two
        go_wp2
        all_goals first
          | (exfalso; omega)
          | exact bodyPost_ret (v := .tuple #[.agg #[.int .i64 (0), .int .i64 (0)], .int .i64 15]) (by simp [results, Tryd.results28, go_sem, z0, z1]) rfl ⟨rfl, (hb3.setCell (p := ⟨w.heap.size, 0, none⟩) (Nat.le_refl _) _).setCell (p := ⟨w.heap.size, 1, none⟩) (Nat.le_refl _) _⟩
    · have hr : Num.rB n d = true := by simp [Num.rB]; omega
      have o2' : decide (1000000000 < Num.rD n d) = false := by simpa using o2
      simp only [Num.redN, Num.redD, Num.redE, hr, if_true]
      by_cases h : d < 0
      · rw [if_pos h] at s2 s3
        have g0 : Num.gc (max (-n) n) (-d) = Num.gc n d := by have := Num.gc_amount (-n) (-d); rw [Num.gc_neg, Int.neg_neg] at this; exact this
        rw [s2] at e1
        rw [s3] at e2 e5
        have e6 : (-d).tdiv (Num.gc n d) = Num.rD n d := by rw [← e2]; exact Int.tdiv_eq_ediv_of_nonneg (by omega)
        go_enter Tryd.func28, Tryd.ntmps28
        go_wp2_with fail
        refine (abs_any (-n) _ (by omega) (by omega)).mono ?_
        rintro e w1 ⟨rfl, rfl⟩
        go_wp2_with fail
        refine (gcd_any _ _ _ (by omega) (by omega) (by omega) (by omega)).mono ?_
        rintro e w2 ⟨rfl, hb2⟩
        rw [g0]
        generalize Num.gc n d = g at *
        have g2 : (g == 0) = false := by simp; omega
        go_wp2_with fail
        go_region
        have hb3 := (below_new0 w (.cells #[.int .i64 0, .int .i64 0] 23)).then_ hb2.drew
        have Kn := (Known.made w 23 #[.int .i64 0, .int .i64 0]).on hb2.drew
        obtain ⟨f0, f1⟩ := Kn.two
        have q0 := Kn.free 0
        have q1 := Kn.free 1
        generalize w2.drew = w3 at *
        clear g0 e1 e2 e6 s2 s3 s1 hb2
        have Kz : Known _ _ _ #[.int .i64 (Num.rN n d), .int .i64 (Num.rD n d)] := (Kn.put 0 (.int .i64 (Num.rN n d))).put 1 (.int .i64 (Num.rD n d))
        obtain ⟨z0, z1⟩ := Kz.two
        go_wp2
        all_goals first
          | (exfalso; omega)
          | exact bodyPost_ret (v := .tuple #[.agg #[.int .i64 (Num.rN n d), .int .i64 (Num.rD n d)], .int .i64 0]) (by simp [results, Tryd.results28, go_sem, z0, z1]) rfl ⟨rfl, (hb3.setCell (p := ⟨w.heap.size, 0, none⟩) (Nat.le_refl _) _).setCell (p := ⟨w.heap.size, 1, none⟩) (Nat.le_refl _) _⟩
      · rw [if_neg h] at s2 s3
        have g0 : Num.gc (max n (-n)) d = Num.gc n d := Num.gc_amount n d
        rw [s2] at e1
        rw [s3] at e2 e5
        have e6 : (d).tdiv (Num.gc n d) = Num.rD n d := by rw [← e2]; exact Int.tdiv_eq_ediv_of_nonneg (by omega)
        go_enter Tryd.func28, Tryd.ntmps28
        go_wp2_with fail
        refine (abs_any (n) _ (by omega) (by omega)).mono ?_
        rintro e w1 ⟨rfl, rfl⟩
        go_wp2_with fail
        refine (gcd_any _ _ _ (by omega) (by omega) (by omega) (by omega)).mono ?_
        rintro e w2 ⟨rfl, hb2⟩
        rw [g0]
        generalize Num.gc n d = g at *
        have g2 : (g == 0) = false := by simp; omega
        go_wp2_with fail
        go_region
        have hb3 := (below_new0 w (.cells #[.int .i64 0, .int .i64 0] 23)).then_ hb2.drew
        have Kn := (Known.made w 23 #[.int .i64 0, .int .i64 0]).on hb2.drew
        obtain ⟨f0, f1⟩ := Kn.two
        have q0 := Kn.free 0
        have q1 := Kn.free 1
        generalize w2.drew = w3 at *
        clear g0 e1 e2 e6 s2 s3 s1 hb2
        have Kz : Known _ _ _ #[.int .i64 (Num.rN n d), .int .i64 (Num.rD n d)] := (Kn.put 0 (.int .i64 (Num.rN n d))).put 1 (.int .i64 (Num.rD n d))
        obtain ⟨z0, z1⟩ := Kz.two
        go_wp2
        all_goals first
          | (exfalso; omega)
          | exact bodyPost_ret (v := .tuple #[.agg #[.int .i64 (Num.rN n d), .int .i64 (Num.rD n d)], .int .i64 0]) (by simp [results, Tryd.results28, go_sem, z0, z1]) rfl ⟨rfl, (hb3.setCell (p := ⟨w.heap.size, 0, none⟩) (Nat.le_refl _) _).setCell (p := ⟨w.heap.size, 1, none⟩) (Nat.le_refl _) _⟩
end Go.Proofs.YtlkfnpmcihfjmaaDoor
