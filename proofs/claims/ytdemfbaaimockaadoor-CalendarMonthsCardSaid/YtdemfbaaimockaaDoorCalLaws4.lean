/-
  The law CalendarMonths, walked: it answers true, and writes nothing that was there. Condition: the library's table of powers of ten as it is laid.
-/
import Derived.Test.YtdemfbaaimockaaDoorCalAddRef
import Derived.Test.YtdemfbaaimockaaDoorCalKnown
import Derived.Test.YtdemfbaaimockaaDoorMask
namespace Go.Proofs.YtdemfbaaimockaaDoor
open Go.RowKit

/-- the date some months later, and the day behind it -/
theorem months_spec {M K : Int} (hM : instB M = true) (h1 : 0 ≤ moN (Cal.yOf (M / 1440)) (Cal.mOf (M / 1440)) K) (h2 : moN (Cal.yOf (M / 1440)) (Cal.mOf (M / 1440)) K ≤ 1199) :
    ∃ A, A = shV (Cal.yOf (M / 1440)) (Cal.mOf (M / 1440)) (Cal.dOf (M / 1440)) (M % 1440) K ∧ instB A = true ∧ A % 1440 = M % 1440
      ∧ (Cal.yOf (A / 1440) - Cal.yOf (M / 1440)) * 12 + Cal.mOf (A / 1440) - Cal.mOf (M / 1440) = K ∧ Cal.dOf (A / 1440) ≤ Cal.dOf (M / 1440)
      ∧ (Cal.dOf (A / 1440) < Cal.dOf (M / 1440) → instB (A + 1440) = true ∧ Cal.dOf ((A + 1440) / 1440) = 1)
      ∧ (2000 ≤ Cal.yOf (A / 1440) ∧ Cal.yOf (A / 1440) ≤ 2099 ∧ 1 ≤ Cal.mOf (A / 1440) ∧ Cal.mOf (A / 1440) ≤ 12 ∧ 1 ≤ Cal.dOf (A / 1440)) := by
  obtain ⟨m1, m2⟩ := instB_iff.1 hM
  obtain ⟨a1, a2, a3, a4, a5, a6, a7⟩ := Cal.dateOf_spec (M / 1440) (by omega) (by omega)
  clear a7
  have hc : 0 ≤ M % 1440 ∧ M % 1440 ≤ 1439 := by omega
  generalize Cal.yOf (M / 1440) = y at *
  generalize Cal.mOf (M / 1440) = m at *
  generalize Cal.dOf (M / 1440) = d at *
  generalize M % 1440 = c at *
  have hY1 : 2000 ≤ shY y m K := by unfold shY; omega
  have hY2 : shY y m K ≤ 2099 := by unfold shY; omega
  have hM1 : 1 ≤ shM y m K := by unfold shM; omega
  have hM2 : shM y m K ≤ 12 := by unfold shM; omega
  have hk : (shY y m K - y) * 12 + shM y m K - m = K := by unfold shY shM moN; omega
  have hD := Cal.dim_bd (shY y m K) (shM y m K)
  have hDim := Cal.dim_bd y m
  have hS : shD y m d K = min d (Cal.dim (shY y m K) (shM y m K)) := rfl
  have hV : shV y m d c K = (Cal.dby (shY y m K) + Cal.cum (shY y m K) (shM y m K) + shD y m d K - 1) * 1440 + c := rfl
  generalize shV y m d c K = A at *
  generalize shD y m d K = D at *
  generalize shY y m K = Y at *
  generalize shM y m K = N at *
  have b1 := Cal.dby_bd Y hY1 (by omega)
  have b2 := Cal.cum_bd Y N hM1 hM2
  have b4 := Cal.dby_bd (Y + 1) (by omega) (by omega)
  have b3 := Cal.dby_succ Y
  have hq : A / 1440 = Cal.dby Y + Cal.cum Y N + D - 1 := by omega
  obtain ⟨e1, e2, e3⟩ := Cal.dateOf_unique (n := A / 1440) hM1 hM2 (by omega) (by omega) hq.symm
  have hi : ∀ (y' m' d' : Int), 2000 ≤ y' → y' ≤ 2099 → 1 ≤ m' → m' ≤ 12 → 1 ≤ d' → d' ≤ Cal.dim y' m' → Cal.dby y' + Cal.cum y' m' + d' - 1 < 36525 := by
    intro y' m' d' q1 q2 q3 q4 q5 q6
    have r1 := Cal.cum_succ y' m' q3 q4
    have r2 := Cal.dby_succ y'
    have r3 := Cal.cum_13 y'
    have r4 := Cal.dby_bd (y' + 1) (by omega) (by omega)
    have r5 : Cal.cum y' (m' + 1) ≤ Cal.cum y' 13 := by
      rcases Cal.twelve q3 q4 with rfl | rfl | rfl | rfl | rfl | rfl | rfl | rfl | rfl | rfl | rfl | rfl <;> simp [Cal.cum] <;> split <;> omega
    omega
  have hi0 := hi Y N D hY1 hY2 hM1 hM2 (by omega) (by omega)
  refine ⟨A, rfl, ?_⟩
  rw [← e1, ← e2, ← e3]
  refine ⟨instB_iff.2 (by omega), by omega, hk, by omega, ?_, by omega, by omega, by omega, by omega, by omega⟩
  intro hlt
  have hN : N ≠ 12 := by
    rintro rfl
    have : Cal.dim Y 12 = 31 := by simp [Cal.dim]
    omega
  have hD' : D = Cal.dim Y N := by omega
  have hs := Cal.cum_succ Y N hM1 hM2
  have hx := Cal.dim_bd Y (N + 1)
  have hi1 := hi Y (N + 1) 1 hY1 hY2 (by omega) (by omega) (by omega) (by omega)
  have hq2 : (A + 1440) / 1440 = Cal.dby Y + Cal.cum Y (N + 1) + 1 - 1 := by omega
  obtain ⟨-, -, g3⟩ := Cal.dateOf_unique (n := (A + 1440) / 1440) (y := Y) (m := N + 1) (d := 1) (by omega) (by omega) (by omega) (by omega) hq2.symm
  exact ⟨instB_iff.2 (by omega), g3.symm⟩

theorem adT_months {M K : Int} (hM : instB M = true) (k1 : -299 ≤ K) (k2 : K ≤ 299) :
    (¬ (0 ≤ moN (Cal.yOf (M / 1440)) (Cal.mOf (M / 1440)) K ∧ moN (Cal.yOf (M / 1440)) (Cal.mOf (M / 1440)) K ≤ 1199) → adT M 4 K = 0 ∧ adE M 4 K = 15)
      ∧ (0 ≤ moN (Cal.yOf (M / 1440)) (Cal.mOf (M / 1440)) K ∧ moN (Cal.yOf (M / 1440)) (Cal.mOf (M / 1440)) K ≤ 1199 → adT M 4 K = shV (Cal.yOf (M / 1440)) (Cal.mOf (M / 1440)) (Cal.dOf (M / 1440)) (M % 1440) K ∧ adE M 4 K = 0) := by
  have r1 : adR M 4 = true := by simp [adR, hM]
  have r2 : adL K = true := by simp [adL]; omega
  have r3 : adV M 4 K = shV (Cal.yOf (M / 1440)) (Cal.mOf (M / 1440)) (Cal.dOf (M / 1440)) (M % 1440) K := by simp [adV]
  constructor
  · intro h
    have r4 : adB M 4 K = false := by simp [adB]; omega
    simp [adT, adE, r1, r2, r4]
  · intro h
    have r4 : adB M 4 K = true := by simp [adB]; omega
    simp [adT, adE, r1, r2, r4, r3]

set_option maxHeartbeats 4000000 in
theorem months_no (n k M K : Int) (w : World) (ht : Tab w) (hB : bits BinOp.and IntKind.i64 n 67108863 = n % 67108864) (hM : n % 67108864 % 52596000 = M) (hK : k.tmod 300 = K)
    (hAdd : ∀ w, Calls Tryd.prog 26 #[.int .i64 M, .int .i64 4, .int .i64 K] w fun e w' => e = .returned (.tuple #[.int .i64 0, .int .i64 15]) ∧ Below w.heap.size w w') :
    Calls Tryd.prog 10 #[.int .i64 n, .int .i64 k] w fun e w' => e = .returned (.bool true) ∧ Below w.heap.size w w' := by
  go_enter Tryd.func10, Tryd.ntmps10
  go_wp2_with fail
  refine (hAdd _).mono ?_
  rintro e w1 ⟨rfl, hb1⟩
  have hb := hb1
  go_wp2_with fail
  refine (known_any _ (ht.on hb)).mono ?_
  rintro e w2 ⟨rfl, hb2⟩
  go_wp2_with fail
  go_ret
  exact ⟨rfl, hb.then_ hb2⟩

set_option maxHeartbeats 4000000 in
theorem months_same (n k M K : Int) (w : World) (ht : Tab w) (hB : bits BinOp.and IntKind.i64 n 67108863 = n % 67108864) (hM : n % 67108864 % 52596000 = M) (hK : k.tmod 300 = K) (A c y m d Y N : Int) (y0 : 2000 ≤ y) (y1 : y ≤ 2099) (m0 : 1 ≤ m) (m1 : m ≤ 12) (Y0 : 2000 ≤ Y) (Y1 : Y ≤ 2099) (N0 : 1 ≤ N) (N1 : N ≤ 12) (hk : (Y - y) * 12 + N - m = K)
    (hAdd : ∀ w, Calls Tryd.prog 26 #[.int .i64 M, .int .i64 4, .int .i64 K] w fun e w' => e = .returned (.tuple #[.int .i64 A, .int .i64 0]) ∧ Below w.heap.size w w')
    (hD1 : ∀ w, Calls Tryd.prog 15 #[.int .i64 M] w fun e w' => e = .returned (.tuple #[.agg #[.int .i64 y, .int .i64 m, .int .i64 d], .int .i64 c, .int .i64 0]) ∧ Below w.heap.size w w')
    (hD2 : ∀ w, Calls Tryd.prog 15 #[.int .i64 A] w fun e w' => e = .returned (.tuple #[.agg #[.int .i64 Y, .int .i64 N, .int .i64 d], .int .i64 c, .int .i64 0]) ∧ Below w.heap.size w w') :
    Calls Tryd.prog 10 #[.int .i64 n, .int .i64 k] w fun e w' => e = .returned (.bool true) ∧ Below w.heap.size w w' := by
  go_enter Tryd.func10, Tryd.ntmps10
  go_wp2_with fail
  refine (hAdd _).mono ?_
  rintro e w1 ⟨rfl, hb1⟩
  go_wp2_with fail
  refine (hD1 _).mono ?_
  rintro e w2 ⟨rfl, hb2⟩
  have hb := (hb1.then_ hb2).then_ (below_new0 w2 (.cells #[.int .i64 y, .int .i64 m, .int .i64 d] 23))
  have Kd := Known.made w2 23 #[.int .i64 y, .int .i64 m, .int .i64 d]
  go_wp2_with fail
  refine (hD2 _).mono ?_
  rintro e w3 ⟨rfl, hb3⟩
  replace hb := (hb.then_ hb3).then_ (below_new0 w3 (.cells #[.int .i64 Y, .int .i64 N, .int .i64 d] 23))
  replace Kd := (Kd.on hb3).alloc (.cells #[.int .i64 Y, .int .i64 N, .int .i64 d] 23)
  have Kx := Known.made w3 23 #[.int .i64 Y, .int .i64 N, .int .i64 d]
  obtain ⟨f0, f1, f2⟩ := Kd.three
  obtain ⟨g0, g1, g2⟩ := Kx.three
  clear hAdd hD1 hD2 hM hK hB hb1 hb2 hb3 Kd Kx
  go_wp2_with fail
  refine (known_any _ (ht.on hb)).mono ?_
  rintro e w4 ⟨rfl, hb4⟩
  go_wp2_with fail
  go_ret
  exact ⟨rfl, hb.then_ hb4⟩

set_option maxHeartbeats 4000000 in
theorem months_less (n k M K : Int) (w : World) (ht : Tab w) (hB : bits BinOp.and IntKind.i64 n 67108863 = n % 67108864) (hM : n % 67108864 % 52596000 = M) (hK : k.tmod 300 = K) (A c y m d Y N D z0 z1 c' : Int) (y0 : 2000 ≤ y) (y1 : y ≤ 2099) (m0 : 1 ≤ m) (m1 : m ≤ 12) (Y0 : 2000 ≤ Y) (Y1 : Y ≤ 2099) (N0 : 1 ≤ N) (N1 : N ≤ 12) (hk : (Y - y) * 12 + N - m = K) (hlt : D < d) (A0 : 0 ≤ A) (A1 : A ≤ 52595999)
    (hAdd : ∀ w, Calls Tryd.prog 26 #[.int .i64 M, .int .i64 4, .int .i64 K] w fun e w' => e = .returned (.tuple #[.int .i64 A, .int .i64 0]) ∧ Below w.heap.size w w')
    (hD1 : ∀ w, Calls Tryd.prog 15 #[.int .i64 M] w fun e w' => e = .returned (.tuple #[.agg #[.int .i64 y, .int .i64 m, .int .i64 d], .int .i64 c, .int .i64 0]) ∧ Below w.heap.size w w')
    (hD2 : ∀ w, Calls Tryd.prog 15 #[.int .i64 A] w fun e w' => e = .returned (.tuple #[.agg #[.int .i64 Y, .int .i64 N, .int .i64 D], .int .i64 c, .int .i64 0]) ∧ Below w.heap.size w w')
    (hD3 : ∀ w, Calls Tryd.prog 15 #[.int .i64 (A + 1440)] w fun e w' => e = .returned (.tuple #[.agg #[.int .i64 z0, .int .i64 z1, .int .i64 1], .int .i64 c', .int .i64 0]) ∧ Below w.heap.size w w') :
    Calls Tryd.prog 10 #[.int .i64 n, .int .i64 k] w fun e w' => e = .returned (.bool true) ∧ Below w.heap.size w w' := by
  have h1 : decide (d < D) = false := by simp; omega
  have h2 : (D == d) = false := by simp; omega
  go_enter Tryd.func10, Tryd.ntmps10
  go_wp2_with fail
  refine (hAdd _).mono ?_
  rintro e w1 ⟨rfl, hb1⟩
  go_wp2_with fail
  refine (hD1 _).mono ?_
  rintro e w2 ⟨rfl, hb2⟩
  have hb := (hb1.then_ hb2).then_ (below_new0 w2 (.cells #[.int .i64 y, .int .i64 m, .int .i64 d] 23))
  have Kd := Known.made w2 23 #[.int .i64 y, .int .i64 m, .int .i64 d]
  go_wp2_with fail
  refine (hD2 _).mono ?_
  rintro e w3 ⟨rfl, hb3⟩
  replace hb := (hb.then_ hb3).then_ (below_new0 w3 (.cells #[.int .i64 Y, .int .i64 N, .int .i64 D] 23))
  replace Kd := (Kd.on hb3).alloc (.cells #[.int .i64 Y, .int .i64 N, .int .i64 D] 23)
  have Kx := Known.made w3 23 #[.int .i64 Y, .int .i64 N, .int .i64 D]
  obtain ⟨f0, f1, f2⟩ := Kd.three
  obtain ⟨g0, g1, g2⟩ := Kx.three
  clear hAdd hD1 hD2 hM hK hB hb1 hb2 hb3 Kd Kx
  go_wp2_with fail
  refine (hD3 _).mono ?_
  rintro e w4 ⟨rfl, hb4⟩
  replace hb := (hb.then_ hb4).then_ (below_new0 w4 (.cells #[.int .i64 z0, .int .i64 z1, .int .i64 1] 23))
  obtain ⟨p0, p1, p2⟩ := (Known.made w4 23 #[.int .i64 z0, .int .i64 z1, .int .i64 1]).three
  go_wp2_with fail
  refine (known_any _ (ht.on hb)).mono ?_
  rintro e w5 ⟨rfl, hb5⟩
  go_wp2_with fail
  go_ret
  exact ⟨rfl, hb.then_ hb5⟩

theorem law_months (n k : Int) (w : World) (ht : Tab w) (_w0 : -9223372036854775808 ≤ n ∧ n ≤ 9223372036854775807) (_w1 : -9223372036854775808 ≤ k ∧ k ≤ 9223372036854775807) :
    Calls Tryd.prog 10 #[.int .i64 n, .int .i64 k] w fun e w' => e = .returned (.bool true) ∧ Below w.heap.size w w' := by
  have hB : bits BinOp.and IntKind.i64 n 67108863 = n % 67108864 := mask_i64 26 (by decide) n _ (by decide)
  obtain ⟨M, hMe⟩ : ∃ M, n % 67108864 % 52596000 = M := ⟨_, rfl⟩
  obtain ⟨K, hKe⟩ : ∃ K, k.tmod 300 = K := ⟨_, rfl⟩
  have m1 : 0 ≤ M := by omega
  have m2 : M ≤ 52595999 := by omega
  have k1 : -299 ≤ K := by have := Int.lt_tmod_of_pos k (b := 300) (by decide); omega
  have k2 : K ≤ 299 := by have := Int.tmod_lt_of_pos k (b := 300) (by decide); omega
  have hM : instB M = true := instB_iff.2 ⟨m1, m2⟩
  obtain ⟨q1, q2⟩ := adT_months hM k1 k2
  have hAdd := fun w => add_any M 4 K w
  by_cases hr : 0 ≤ moN (Cal.yOf (M / 1440)) (Cal.mOf (M / 1440)) K ∧ moN (Cal.yOf (M / 1440)) (Cal.mOf (M / 1440)) K ≤ 1199
  · obtain ⟨A, hA, i1, i2, i3, i4, i5, i6⟩ := months_spec hM hr.1 hr.2
    obtain ⟨q3, q4⟩ := q2 hr
    rw [← hA] at q3
    rw [q3, q4] at hAdd
    have hD1 := fun w => dateOf_yes M w hM
    have hD2 := fun w => dateOf_yes A w i1
    rw [i2] at hD2
    obtain ⟨a1, a2, a3, a4, a5, a6, a7⟩ := Cal.dateOf_spec (M / 1440) (by omega) (by omega)
    obtain ⟨b1, b2, b3, b4, b5⟩ := i6
    obtain ⟨s1, s2⟩ := instB_iff.1 i1
    clear a6 a7
    by_cases hD : Cal.dOf (A / 1440) = Cal.dOf (M / 1440)
    · rw [hD] at hD2
      exact months_same n k M K w ht hB hMe hKe A (M % 1440) _ _ _ _ _ (by omega) (by omega) (by omega) (by omega) b1 b2 b3 b4 i3 hAdd hD1 hD2
    · obtain ⟨e1, e2⟩ := i5 (by omega)
      have hD3 := fun w => dateOf_yes (A + 1440) w e1
      rw [e2] at hD3
      exact months_less n k M K w ht hB hMe hKe A (M % 1440) _ _ _ _ _ _ _ _ _ (by omega) (by omega) (by omega) (by omega) b1 b2 b3 b4 i3 (by omega) s1 s2 hAdd hD1 hD2 hD3
  · obtain ⟨q3, q4⟩ := q1 hr
    rw [q3, q4] at hAdd
    exact months_no n k M K w ht hB hMe hKe hAdd
end Go.Proofs.YtdemfbaaimockaaDoor
