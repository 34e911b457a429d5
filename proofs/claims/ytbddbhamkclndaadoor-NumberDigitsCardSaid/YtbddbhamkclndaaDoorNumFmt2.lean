/-
  Format and Fixed: one text for all numbers, by the program and by the reference; the law NumberFormat. Conditions: those typed in each theorem; the library's table of powers of ten reads as its initialiser lays it.
-/
import Derived.Test.YtbddbhamkclndaaDoorNumFmt
import Derived.Test.YtbddbhamkclndaaDoorNumBoth
import Derived.Test.YtbddbhamkclndaaDoorNumKnown3
namespace Go.Proofs.YtbddbhamkclndaaDoor
open Go.RowKit

theorem formatP_no (a b : Int) (w : World) (i1 : I64 a) (i2 : I64 b) (v1 : Num.val a b = false) :
    Calls Tryd.prog 21 #[.agg #[.int .i64 a, .int .i64 b]] w fun e w' => e = .returned (.string ⟨#[]⟩) ∧ Below w.heap.size w w' := by
  go_enter Tryd.func21, Tryd.ntmps21
  go_wp2_with fail
  refine (valid_any a b _ i1 i2).mono ?_
  rintro e w1 ⟨rfl, hb1⟩
  rw [v1]
  have hb := (below_new0 w (.cells #[.int .i64 a, .int .i64 b] 23)).then_ hb1
  go_wp2
  go_ret
  exact ⟨rfl, hb⟩
theorem formatR_no (a b : Int) (w : World) (i1 : I64 a) (i2 : I64 b) (v1 : Num.val a b = false) :
    Calls Tryd.prog 22 #[.agg #[.int .i64 a, .int .i64 b]] w fun e w' => e = .returned (.string ⟨#[]⟩) ∧ Below w.heap.size w w' := by
  go_enter Tryd.func22, Tryd.ntmps22
  go_wp2_with fail
  refine (validRef_any a b _ i1 i2).mono ?_
  rintro e w1 ⟨rfl, hb1⟩
  rw [v1]
  have hb := (below_new0 w (.cells #[.int .i64 a, .int .i64 b] 23)).then_ hb1
  go_wp2
  go_ret
  exact ⟨rfl, hb⟩
theorem format_both (a b : Int) (i1 : I64 a) (i2 : I64 b) : ∃ s : ByteArray,
    (∀ w, Tab w → Calls Tryd.prog 21 #[.agg #[.int .i64 a, .int .i64 b]] w fun e w' => e = .returned (.string s) ∧ Below w.heap.size w w') ∧
    (∀ w, Calls Tryd.prog 22 #[.agg #[.int .i64 a, .int .i64 b]] w fun e w' => e = .returned (.string s) ∧ Below w.heap.size w w') := by
  cases v1 : Num.val a b
  · exact ⟨_, fun w _ => formatP_no a b w i1 i2 v1, fun w => formatR_no a b w i1 i2 v1⟩
  have hv := Num.val_iff.1 v1
  by_cases h : ∃ k, k ≤ 9 ∧ (10 : Int) ^ k % b = 0
  · obtain ⟨k, hk, hit, hl⟩ := least (fun k => (10 : Int) ^ k % b = 0) 9 h
    have h1 : 1 ≤ (10 : Int) ^ k / b := by
      have := pow_bd k hk
      have hd := Int.le_of_dvd (by omega) (Int.dvd_of_emod_eq_zero hit)
      exact (Int.le_ediv_iff_mul_le (by omega)).2 (by omega)
    exact ⟨_, fun w ht => formatP_hit a b k w v1 hk hit hl ht, fun w => formatR_hit a b k w v1 hk hit hl h1⟩
  · exact ⟨_, fun w ht => formatP_none a b w v1 (fun j hj hz => h ⟨j, hj, hz⟩) ht, fun w => formatR_none a b w v1 (fun j hj hz => h ⟨j, hj, hz⟩)⟩

set_option maxHeartbeats 1000000 in
theorem fixedP_no (a b k x y z : Int) (w : World) (hz : z ≠ 0) (hR : Ret 25 #[.agg #[.int .i64 a, .int .i64 b], .int .i64 k] (x, y, z)) :
    Calls Tryd.prog 19 #[.agg #[.int .i64 a, .int .i64 b], .int .i64 k] w fun e w' => e = .returned (.tuple #[.string ⟨#[]⟩, .int .i64 z]) ∧ Below w.heap.size w w' := by
  have hz' : (z == 0) = false := by simpa using hz
  unfold Ret at hR
  simp only at hR
  go_enter Tryd.func19, Tryd.ntmps19
  go_wp2_with fail
  refine (hR _).mono ?_
  rintro e w1 ⟨rfl, hb1⟩
  have hb := ((below_new0 w (.cells #[.int .i64 a, .int .i64 b] 23)).then_ hb1).then_ (below_new0 w1 (.cells #[.int .i64 x, .int .i64 y] 23))
  go_wp2
  go_ret2
  exact ⟨rfl, hb⟩
set_option maxHeartbeats 1000000 in
theorem fixedR_no (a b k x y z : Int) (w : World) (hz : z ≠ 0) (hR : Ret 26 #[.agg #[.int .i64 a, .int .i64 b], .int .i64 k] (x, y, z)) :
    Calls Tryd.prog 20 #[.agg #[.int .i64 a, .int .i64 b], .int .i64 k] w fun e w' => e = .returned (.tuple #[.string ⟨#[]⟩, .int .i64 z]) ∧ Below w.heap.size w w' := by
  have hz' : (z == 0) = false := by simpa using hz
  unfold Ret at hR
  simp only at hR
  go_enter Tryd.func20, Tryd.ntmps20
  go_wp2_with fail
  refine (hR _).mono ?_
  rintro e w1 ⟨rfl, hb1⟩
  have hb := ((below_new0 w (.cells #[.int .i64 a, .int .i64 b] 23)).then_ hb1).then_ (below_new0 w1 (.cells #[.int .i64 x, .int .i64 y] 23))
  go_wp2
  go_ret2
  exact ⟨rfl, hb⟩
set_option maxRecDepth 10000 in
set_option maxHeartbeats 1000000 in
theorem fixedP_ok (a b x y : Int) (k : Nat) (w : World) (hk : k ≤ 9) (v : Num.val x y = true) (ht : Tab w) (hR : Ret 25 #[.agg #[.int .i64 a, .int .i64 b], .int .i64 k] (x, y, 0)) :
    Calls Tryd.prog 19 #[.agg #[.int .i64 a, .int .i64 b], .int .i64 k] w fun e w' => e = .returned (.tuple #[.string ⟨(decZ (x * ((10 : Int) ^ k / y)) k).toArray⟩, .int .i64 0]) ∧ Below w.heap.size w w' := by
  obtain ⟨k1, k2, k3, k4, k5⟩ := Num.val_iff.1 v
  have hz : (y == 0) = false := by simp; omega
  obtain ⟨p1, p2⟩ := pow_bd k hk
  have t0 : 0 ≤ (10 : Int) ^ k / y := Int.ediv_nonneg (by omega) (by omega)
  have t2 : (10 : Int) ^ k / y ≤ (10 : Int) ^ k := Int.ediv_le_self _ (by omega)
  obtain ⟨l1, l2⟩ := mul_bd k1 k2 (show -1000000000 ≤ (10 : Int) ^ k / y by omega) (show (10 : Int) ^ k / y ≤ 1000000000 by omega)
  have hD := fun w ht => decimal_z (x * ((10 : Int) ^ k / y)) k w (by omega) (by omega) hk ht
  have hp : ∀ w, Calls Tryd.prog 51 #[.int .i64 k] w fun e w' => e = .returned (.int .i64 (10 ^ k)) ∧ w = w' := fun w => power_any k w (by omega)
  have ht1 : ((10 : Int) ^ k).tdiv y = (10 : Int) ^ k / y := Int.tdiv_eq_ediv_of_nonneg (by omega)
  generalize (10 : Int) ^ k / y = t at *
  generalize (10 : Int) ^ k = P at *
  generalize hn : x * t = n at *
  unfold Ret at hR
  simp only at hR
  go_enter Tryd.func19, Tryd.ntmps19
  go_wp2_with fail
  refine (hR _).mono ?_
  rintro e w1 ⟨rfl, hb1⟩
  have hb := ((below_new0 w (.cells #[.int .i64 a, .int .i64 b] 23)).then_ hb1).then_ (below_new0 w1 (.cells #[.int .i64 x, .int .i64 y] 23))
  have KN := Known.made w1 23 #[.int .i64 x, .int .i64 y]
  obtain ⟨f0, f1⟩ := KN.two
  have hlt := KN.lt
  have hT : Tab (w1.alloc (.cells #[.int .i64 x, .int .i64 y] 23)) := ht.on hb
  clear KN hb1
  go_wp2_with fail
  generalize w1.alloc (.cells #[.int .i64 x, .int .i64 y] 23) = w2 at *
  refine wp_region_gr (by kernel_rfl) (by kernel_rfl) ?_
  repeat (go_big_quiet_step (first | (go_at_call 51; exact gr_same (hp _)) | (go_at_call 50; exact gr_call (hD _ (hT.on (gr_below _ _))))))
  refine wpQuiet_nil ?_
  intro _ hw'; obtain ⟨w5, hw''⟩ := hw'; subst hw''
  have hB := gr_below w2 w5
  generalize gr w2 w5 = w4 at *
  go_wp2
  go_ret2
  exact ⟨rfl, hb.then_ hB⟩
set_option maxRecDepth 10000 in
set_option maxHeartbeats 1000000 in
theorem fixedR_ok (a b x y : Int) (k : Nat) (w : World) (hk : k ≤ 9) (v : Num.val x y = true) (h1 : 1 ≤ (10 : Int) ^ k / y) (hR : Ret 26 #[.agg #[.int .i64 a, .int .i64 b], .int .i64 k] (x, y, 0)) :
    Calls Tryd.prog 20 #[.agg #[.int .i64 a, .int .i64 b], .int .i64 k] w fun e w' => e = .returned (.tuple #[.string ⟨(decZ (x * ((10 : Int) ^ k / y)) k).toArray⟩, .int .i64 0]) ∧ Below w.heap.size w w' := by
  obtain ⟨k1, k2, k3, k4, k5⟩ := Num.val_iff.1 v
  have hN := fun w => notation_any x y k w k1 k2 k3 k4 hk h1
  generalize decZ (x * ((10 : Int) ^ k / y)) k = R at *
  unfold Ret at hR
  simp only at hR
  go_enter Tryd.func20, Tryd.ntmps20
  go_wp2_with fail
  refine (hR _).mono ?_
  rintro e w1 ⟨rfl, hb1⟩
  have hb := ((below_new0 w (.cells #[.int .i64 a, .int .i64 b] 23)).then_ hb1).then_ (below_new0 w1 (.cells #[.int .i64 x, .int .i64 y] 23))
  obtain ⟨f0, f1⟩ := (Known.made w1 23 #[.int .i64 x, .int .i64 y]).two
  go_wp2_with fail
  refine (hN _).mono ?_
  rintro e w2 ⟨rfl, hb2⟩
  go_wp2
  go_ret2
  exact ⟨rfl, hb.then_ hb2⟩
theorem round_den {a b : Int} {k : Int} {x y : Int} (h : roundV a b k = (x, y, 0)) : 0 ≤ k ∧ k ≤ 9 ∧ Num.val x y = true ∧ 1 ≤ (10 : Int) ^ k.toNat / y := by
  unfold roundV at h
  split at h
  · split at h
    · cases h
    · rename_i hk
      have hp := pow_bd k.toNat (by omega)
      have hd : (10 : Int) ^ k.toNat ≠ 0 := by omega
      have he : (Num.red (rndQ a b (10 ^ k.toNat)) (10 ^ k.toNat)).2.2 = 0 := by rw [h]
      have hr : Num.rB (rndQ a b (10 ^ k.toNat)) (10 ^ k.toNat) = true := by
        cases hr : Num.rB (rndQ a b (10 ^ k.toNat)) (10 ^ k.toNat)
        · simp [Num.red, Num.redE, hr] at he
        · rfl
      have hv := Num.red_val hd hr
      have hle := Num.rD_le (rndQ a b (10 ^ k.toNat)) hd
      have hs : Num.sD ((10 : Int) ^ k.toNat) = (10 : Int) ^ k.toNat := by unfold Num.sD; rw [if_neg (by omega)]
      have hx : Num.rN (rndQ a b (10 ^ k.toNat)) (10 ^ k.toNat) = x ∧ Num.rD (rndQ a b (10 ^ k.toNat)) (10 ^ k.toNat) = y := by
        simp only [Num.red, Num.redN, Num.redD, Num.redE, hr, if_true, Prod.mk.injEq] at h
        exact ⟨h.1, h.2.1⟩
      rw [hx.1, hx.2] at hv
      rw [hx.2, hs] at hle
      have := Num.val_iff.1 hv
      exact ⟨by omega, by omega, hv, (Int.le_ediv_iff_mul_le (by omega)).2 (by omega)⟩
  · cases h
theorem fixed_both (a b k : Int) (i1 : I64 a) (i2 : I64 b) : ∃ (s : ByteArray) (z : Int),
    (∀ w, Tab w → Calls Tryd.prog 19 #[.agg #[.int .i64 a, .int .i64 b], .int .i64 k] w fun e w' => e = .returned (.tuple #[.string s, .int .i64 z]) ∧ Below w.heap.size w w') ∧
    (∀ w, Calls Tryd.prog 20 #[.agg #[.int .i64 a, .int .i64 b], .int .i64 k] w fun e w' => e = .returned (.tuple #[.string s, .int .i64 z]) ∧ Below w.heap.size w w') := by
  have hP := roundP_any a b k i1 i2
  have hR := roundR_any a b k i1 i2
  obtain ⟨⟨x, y, z⟩, hr⟩ : ∃ r, roundV a b k = r := ⟨_, rfl⟩
  rw [hr] at hP hR
  by_cases hz : z = 0
  · subst hz
    obtain ⟨k0, k9, v, h1⟩ := round_den hr
    obtain ⟨n, rfl⟩ := Int.eq_ofNat_of_zero_le k0
    rw [show (n : Int).toNat = n by omega] at h1
    exact ⟨_, _, fun w ht => fixedP_ok a b x y n w (by omega) v ht hP, fun w => fixedR_ok a b x y n w (by omega) v h1 hR⟩
  · exact ⟨_, _, fun w _ => fixedP_no a b k x y z w hz hP, fun w => fixedR_no a b k x y z w hz hR⟩

set_option maxHeartbeats 2000000 in
theorem law_format (a b k : Int) (w : World) (i1 : I64 a) (i2 : I64 b) (ht : Tab w) :
    Calls Tryd.prog 4 #[.agg #[.int .i64 a, .int .i64 b], .int .i64 k] w fun e w' => e = .returned (.bool true) ∧ Below w.heap.size w w' := by
  obtain ⟨s, fP, fR⟩ := format_both a b i1 i2
  obtain ⟨t, z, xP, xR⟩ := fixed_both a b k i1 i2
  clear i1 i2
  have hb := below_new0 w (.cells #[.int .i64 a, .int .i64 b] 23)
  have KN := Known.made w 23 #[.int .i64 a, .int .i64 b]
  obtain ⟨c0, c1⟩ := KN.two
  go_enter Tryd.func4, Tryd.ntmps4
  go_wp2_with fail
  refine (xP _ (ht.on hb)).mono ?_
  rintro e w1 ⟨rfl, hb1⟩
  replace hb := hb.then_ hb1
  replace KN := KN.on hb1
  clear c0 c1
  obtain ⟨c0, c1⟩ := KN.two
  go_wp2_with fail
  refine (xR _).mono ?_
  rintro e w2 ⟨rfl, hb2⟩
  replace hb := hb.then_ hb2
  replace KN := KN.on hb2
  clear c0 c1
  obtain ⟨c0, c1⟩ := KN.two
  have hlt := KN.lt
  have hT : Tab w2 := ht.on hb
  clear xP xR hb1 hb2
  go_wp2_with fail
  refine wp_region_gr (by kernel_rfl) (by kernel_rfl) ?_
  repeat (go_big_quiet_step (first | (go_at_call 21; exact gr_call (fP _ (hT.on (gr_below _ _)))) | (go_at_call 22; exact gr_call (fR _)) | (go_at_call 18; exact gr_call (known_any _))))
  refine wpQuiet_nil ?_
  intro _ hw'; obtain ⟨w5, hw''⟩ := hw'; subst hw''
  have hB := gr_below w2 w5
  generalize gr w2 w5 = w4 at *
  go_wp2
  go_ret
  exact ⟨rfl, hb.then_ hB⟩
end Go.Proofs.YtbddbhamkclndaaDoor
