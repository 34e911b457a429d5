/-
  The laws CalendarInverse, CalendarStart and CalendarNests, walked: each answers true, and writes nothing that was there. Condition: the library's table of powers of ten as it is laid.
-/
import Derived.Test.YtdemfbaaimockaaDoorCalKnown
import Derived.Test.YtdemfbaaimockaaDoorCalStart
import Derived.Test.YtdemfbaaimockaaDoorMask
namespace Go.Proofs.YtdemfbaaimockaaDoor
open Go.RowKit

set_option maxHeartbeats 1000000 in
theorem law_start (u n : Int) (w : World) (ht : Tab w) :
    Calls Tryd.prog 6 #[.int .i64 u, .int .i64 n] w fun e w' => e = .returned (.bool true) ∧ Below w.heap.size w w' := by
  go_enter Tryd.func6, Tryd.ntmps6
  go_wp2_with fail
  refine (start_any u n _).mono ?_
  rintro e w1 ⟨rfl, hb1⟩
  go_wp2_with fail
  refine (start_ref u n _).mono ?_
  rintro e w2 ⟨rfl, hb2⟩
  have hb := hb1.then_ hb2
  go_wp2_with fail
  refine (known_any _ (ht.on hb)).mono ?_
  rintro e w3 ⟨rfl, hb3⟩
  go_wp2_with fail
  go_ret
  exact ⟨rfl, hb.then_ hb3⟩

set_option maxHeartbeats 2000000 in
theorem law_inverse (n : Int) (w : World) (ht : Tab w) (_w0 : -9223372036854775808 ≤ n ∧ n ≤ 9223372036854775807) :
    Calls Tryd.prog 4 #[.int .i64 n] w fun e w' => e = .returned (.bool true) ∧ Below w.heap.size w w' := by
  have hB : bits BinOp.and IntKind.i64 n 67108863 = n % 67108864 := mask_i64 26 (by decide) n _ (by decide)
  have m1 : 0 ≤ n % 67108864 % 52596000 := by omega
  have m2 : n % 67108864 % 52596000 ≤ 52595999 := by omega
  go_enter Tryd.func4, Tryd.ntmps4
  go_wp2_with fail
  generalize n % 67108864 % 52596000 = M at *
  have hM : instB M = true := instB_iff.2 ⟨m1, m2⟩
  obtain ⟨a1, a2, a3, a4, a5, a6, a7⟩ := Cal.dateOf_spec (M / 1440) (by omega) (by omega)
  have hv : Cal.vd (Cal.yOf (M / 1440)) (Cal.mOf (M / 1440)) (Cal.dOf (M / 1440)) (M % 1440) = true := Cal.vd_iff.2 ⟨a1, a2, a3, a4, a5, a6, by omega, by omega⟩
  have hk := Lib.hid (show (Cal.dby (Cal.yOf (M / 1440)) + Cal.cum (Cal.yOf (M / 1440)) (Cal.mOf (M / 1440)) + Cal.dOf (M / 1440) - 1) * 1440 + M % 1440 = M by rw [a7]; omega)
  clear a1 a2 a3 a4 a5 a6 a7
  refine (dateOf_yes M _ hM).mono ?_
  rintro e w1 ⟨rfl, hb1⟩
  go_wp2_with fail
  refine (minute_yes _ _ _ _ _ hv).mono ?_
  rintro e w2 ⟨rfl, hb2⟩
  rw [hk.out]
  have hb := (hb1.then_ (below_new0 w1 _)).then_ hb2
  go_wp2_with fail
  refine (weekday_yes M _ hM).mono ?_
  rintro e w3 ⟨rfl, rfl⟩
  go_wp2_with fail
  by_cases hl : 52596000 ≤ M + 1440
  · refine (weekday_no (M + 1440) _ (by rw [← Bool.not_eq_true, instB_iff]; omega)).mono ?_
    rintro e w3 ⟨rfl, rfl⟩
    go_wp2_with fail
    refine (known_any _ (ht.on hb)).mono ?_
    rintro e w4 ⟨rfl, hb4⟩
    go_wp2_with fail
    go_ret
    exact ⟨rfl, hb.then_ hb4⟩
  · refine (weekday_yes (M + 1440) _ (instB_iff.2 (by omega))).mono ?_
    rintro e w3 ⟨rfl, rfl⟩
    have hw : (((M + 1440) / 1440 + 5) % 7 + 1 == ((M / 1440 + 5) % 7 + 1) % 7 + 1) = true := by simp; omega
    go_wp2_with fail
    refine (known_any _ (ht.on hb)).mono ?_
    rintro e w4 ⟨rfl, hb4⟩
    go_wp2_with fail
    go_ret
    exact ⟨rfl, hb.then_ hb4⟩

/-- the beginnings of a unit, and of the next coarser one -/
theorem nests (M u : Int) (m1 : 0 ≤ M) (m2 : M ≤ 52595999) (u1 : 1 ≤ u) (u2 : u ≤ 4) :
    0 ≤ stV u M ∧ stV u M ≤ M ∧ stV u (stV u M) = stV u M ∧ stV (u + 1) M ≤ stV u M ∧ stV (u + 1) (stV u M) = stV (u + 1) M := by
  obtain ⟨a1, a2, a3, a4, a5, a6, a7⟩ := Cal.dateOf_spec (M / 1440) (by omega) (by omega)
  have c1 := Cal.cum_bd (Cal.yOf (M / 1440)) (Cal.mOf (M / 1440)) a3 a4
  have d1 := Cal.dby_bd (Cal.yOf (M / 1440)) a1 (by omega)
  have d2 := Cal.dim_bd (Cal.yOf (M / 1440)) (Cal.mOf (M / 1440))
  have d3 := Cal.dim_bd (Cal.yOf (M / 1440)) 1
  have f1 := Cal.dateOf_unique (n := Cal.dby (Cal.yOf (M / 1440)) + Cal.cum (Cal.yOf (M / 1440)) (Cal.mOf (M / 1440))) (y := Cal.yOf (M / 1440)) (m := Cal.mOf (M / 1440)) (d := 1) a3 a4 (by omega) (by omega) (by omega)
  have f2 := Cal.dateOf_unique (n := Cal.dby (Cal.yOf (M / 1440))) (y := Cal.yOf (M / 1440)) (m := 1) (d := 1) (by omega) (by omega) (by omega) (by omega) (by rw [Cal.cum_one]; omega)
  rcases (show u = 1 ∨ u = 2 ∨ u = 3 ∨ u = 4 by omega) with rfl | rfl | rfl | rfl
  · simp [stV]; omega
  · simp [stV]; omega
  · have e1 : (M - M % 1440) / 1440 = M / 1440 := by omega
    simp [stV, e1]; omega
  · obtain ⟨g1, g2, _⟩ := f1
    have s4 : ∀ x, stV 4 x = (Cal.dby (Cal.yOf (x / 1440)) + Cal.cum (Cal.yOf (x / 1440)) (Cal.mOf (x / 1440))) * 1440 := fun x => by simp [stV]
    have s5 : ∀ x, stV (4 + 1) x = Cal.dby (Cal.yOf (x / 1440)) * 1440 := fun x => by simp [stV]
    have e1 : stV 4 M / 1440 = Cal.dby (Cal.yOf (M / 1440)) + Cal.cum (Cal.yOf (M / 1440)) (Cal.mOf (M / 1440)) := by rw [s4]; omega
    have e2 := s4 (stV 4 M)
    have e3 := s5 (stV 4 M)
    rw [e1, ← g1, ← g2] at e2
    rw [e1, ← g1] at e3
    have e4 := s4 M
    have e5 := s5 M
    omega

set_option maxHeartbeats 2000000 in
theorem law_nests (n u : Int) (w : World) (ht : Tab w) (_w0 : -9223372036854775808 ≤ n ∧ n ≤ 9223372036854775807) :
    Calls Tryd.prog 7 #[.int .i64 n, .int .i64 u] w fun e w' => e = .returned (.bool true) ∧ Below w.heap.size w w' := by
  have hB : bits BinOp.and IntKind.i64 n 67108863 = n % 67108864 := mask_i64 26 (by decide) n _ (by decide)
  have hU : bits BinOp.and IntKind.i64 u 3 = u % 4 := mask_i64 2 (by decide) u _ (by decide)
  have m1 : 0 ≤ n % 67108864 % 52596000 := by omega
  have m2 : n % 67108864 % 52596000 ≤ 52595999 := by omega
  have u1 : 1 ≤ 1 + u % 4 := by omega
  have u2 : 1 + u % 4 ≤ 4 := by omega
  go_enter Tryd.func7, Tryd.ntmps7
  go_wp2_with fail
  generalize n % 67108864 % 52596000 = M at *
  generalize 1 + u % 4 = U at *
  clear hB hU
  have hM : instB M = true := instB_iff.2 ⟨m1, m2⟩
  obtain ⟨k1, k2, k3, k4, k5⟩ := nests M U m1 m2 u1 u2
  refine (start_yes U M _ u1 (by omega) hM).mono ?_
  rintro e w1 ⟨rfl, hb1⟩
  go_wp2_with fail
  refine (start_yes U (stV U M) _ u1 (by omega) (instB_iff.2 (by omega))).mono ?_
  rintro e w2 ⟨rfl, hb2⟩
  rw [k3]
  have hb := hb1.then_ hb2
  have K5 := Lib.hid k5
  clear k3 k5
  go_wp2_with fail
  refine (start_yes (U + 1) M _ (by omega) (by omega) hM).mono ?_
  rintro e w3 ⟨rfl, hb3⟩
  go_wp2_with fail
  refine (start_yes (U + 1) (stV U M) _ (by omega) (by omega) (instB_iff.2 (by omega))).mono ?_
  rintro e w4 ⟨rfl, hb4⟩
  rw [K5.out]
  have hb' := (hb.then_ hb3).then_ hb4
  go_wp2_with fail
  refine (known_any _ (ht.on hb')).mono ?_
  rintro e w5 ⟨rfl, hb5⟩
  go_wp2_with fail
  go_ret
  exact ⟨rfl, hb'.then_ hb5⟩
end Go.Proofs.YtdemfbaaimockaaDoor
