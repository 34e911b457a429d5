/-
  The claim's own texts, packed. Conditions: those typed in each theorem.
-/
import Derived.Test.YtcklofamaooegaaGreatDoorZKaay
import Derived.Test.YtcklofamaooegaaGreatDoorZKaal
import Derived.Test.YtcklofamaooegaaGreatDoorZKaam
set_option maxHeartbeats 4000000
set_option maxRecDepth 10000
set_option linter.unusedVariables false
namespace Go.Proofs.YtcklofamaooegaaGreatDoor
open Go.RowKit
theorem formatP_no (a b : Int) (w : World) (i1 : I64 a) (i2 : I64 b) (v1 : Num.val a b = false) :
  Calls Tryz.prog 27 #[.agg #[.int .i64 a, .int .i64 b]] w fun e w' => e = .returned (.string ⟨#[]⟩) ∧ Below w.heap.size w w' := by
 go_enter Tryz.func27, Tryz.ntmps27
 go_wp2_with fail
 refine (valid_any a b _ i1 i2).mono ?_
 rintro e w1 ⟨rfl, hb1⟩
 rw [v1]
 have hb := (below_new0 w (.cells #[.int .i64 a, .int .i64 b] 50)).then_ hb1
 go_wp2
 go_ret
 exact ⟨rfl, hb⟩
theorem formatR_no (a b : Int) (w : World) (i1 : I64 a) (i2 : I64 b) (v1 : Num.val a b = false) :
  Calls Tryz.prog 41 #[.agg #[.int .i64 a, .int .i64 b]] w fun e w' => e = .returned (.string ⟨#[]⟩) ∧ Below w.heap.size w w' := by
 go_enter Tryz.func41, Tryz.ntmps41
 go_wp2_with fail
 refine (validRef_any a b _ i1 i2).mono ?_
 rintro e w1 ⟨rfl, hb1⟩
 rw [v1]
 have hb := (below_new0 w (.cells #[.int .i64 a, .int .i64 b] 50)).then_ hb1
 go_wp2
 go_ret
 exact ⟨rfl, hb⟩
theorem format_both (a b : Int) (i1 : I64 a) (i2 : I64 b) : ∃ s : ByteArray,
  (∀ w, Tab w → Calls Tryz.prog 27 #[.agg #[.int .i64 a, .int .i64 b]] w fun e w' => e = .returned (.string s) ∧ Below w.heap.size w w') ∧
  (∀ w, Calls Tryz.prog 41 #[.agg #[.int .i64 a, .int .i64 b]] w fun e w' => e = .returned (.string s) ∧ Below w.heap.size w w') := by
 cases v1 : Num.val a b
 ·exact ⟨_, fun w _ => formatP_no a b w i1 i2 v1, fun w => formatR_no a b w i1 i2 v1⟩
 have hv := Num.val_iff.1 v1
 by_cases h : ∃ k, k ≤ 9 ∧ (10 : Int) ^ k % b = 0
 ·obtain ⟨k, hk, hit, hl⟩ := least (fun k => (10 : Int) ^ k % b = 0) 9 h
  have h1 : 1 ≤ (10 : Int) ^ k / b := by
   have := pow_bd k hk
   have hd := Int.le_of_dvd (by omega) (Int.dvd_of_emod_eq_zero hit)
   exact (Int.le_ediv_iff_mul_le (by omega)).2 (by omega)
  exact ⟨_, fun w ht => formatP_hit a b k w v1 hk hit hl ht, fun w => formatR_hit a b k w v1 hk hit hl h1⟩
 ·exact ⟨_, fun w ht => formatP_none a b w v1 (fun j hj hz => h ⟨j, hj, hz⟩) ht, fun w => formatR_none a b w v1 (fun j hj hz => h ⟨j, hj, hz⟩)⟩
theorem fixedP_no (a b k x y z : Int) (w : World) (hz : z ≠ 0) (hR : Ret 120 #[.agg #[.int .i64 a, .int .i64 b], .int .i64 k] (x, y, z)) :
  Calls Tryz.prog 61 #[.agg #[.int .i64 a, .int .i64 b], .int .i64 k] w fun e w' => e = .returned (.tuple #[.string ⟨#[]⟩, .int .i64 z]) ∧ Below w.heap.size w w' := by
 have hz' : (z == 0) = false := by simpa using hz
 unfold Ret at hR
 simp only at hR
 go_enter Tryz.func61, Tryz.ntmps61
 go_wp2_with fail
 refine (hR _).mono ?_
 rintro e w1 ⟨rfl, hb1⟩
 have hb := ((below_new0 w (.cells #[.int .i64 a, .int .i64 b] 50)).then_ hb1).then_ (below_new0 w1 (.cells #[.int .i64 x, .int .i64 y] 50))
 go_wp2
 go_ret2
 exact ⟨rfl, hb⟩
theorem fixedR_no (a b k x y z : Int) (w : World) (hz : z ≠ 0) (hR : Ret 155 #[.agg #[.int .i64 a, .int .i64 b], .int .i64 k] (x, y, z)) :
  Calls Tryz.prog 104 #[.agg #[.int .i64 a, .int .i64 b], .int .i64 k] w fun e w' => e = .returned (.tuple #[.string ⟨#[]⟩, .int .i64 z]) ∧ Below w.heap.size w w' := by
 have hz' : (z == 0) = false := by simpa using hz
 unfold Ret at hR
 simp only at hR
 go_enter Tryz.func104, Tryz.ntmps104
 go_wp2_with fail
 refine (hR _).mono ?_
 rintro e w1 ⟨rfl, hb1⟩
 have hb := ((below_new0 w (.cells #[.int .i64 a, .int .i64 b] 50)).then_ hb1).then_ (below_new0 w1 (.cells #[.int .i64 x, .int .i64 y] 50))
 go_wp2
 go_ret2
 exact ⟨rfl, hb⟩
theorem fixedP_ok (a b x y : Int) (k : Nat) (w : World) (hk : k ≤ 9) (v : Num.val x y = true) (ht : Tab w) (hR : Ret 120 #[.agg #[.int .i64 a, .int .i64 b], .int .i64 k] (x, y, 0)) :
  Calls Tryz.prog 61 #[.agg #[.int .i64 a, .int .i64 b], .int .i64 k] w fun e w' => e = .returned (.tuple #[.string ⟨(decZ (x * ((10 : Int) ^ k / y)) k).toArray⟩, .int .i64 0]) ∧ Below w.heap.size w w' := by
 obtain ⟨k1, k2, k3, k4, k5⟩ := Num.val_iff.1 v
 have hz : (y == 0) = false := by simp; omega
 obtain ⟨p1, p2⟩ := pow_bd k hk
 have t0 : 0 ≤ (10 : Int) ^ k / y := Int.ediv_nonneg (by omega) (by omega)
 have t2 : (10 : Int) ^ k / y ≤ (10 : Int) ^ k := Int.ediv_le_self _ (by omega)
 obtain ⟨l1, l2⟩ := mul_bd k1 k2 (show -1000000000 ≤ (10 : Int) ^ k / y by omega) (show (10 : Int) ^ k / y ≤ 1000000000 by omega)
 have hD := fun w ht => decimal_z (x * ((10 : Int) ^ k / y)) k w (by omega) (by omega) hk ht
 have hp : ∀ w, Calls Tryz.prog 57 #[.int .i64 k] w fun e w' => e = .returned (.int .i64 (10 ^ k)) ∧ w = w' := fun w => power_any k w (by omega)
 have ht1 : ((10 : Int) ^ k).tdiv y = (10 : Int) ^ k / y := Int.tdiv_eq_ediv_of_nonneg (by omega)
 generalize (10 : Int) ^ k / y = t at *
 generalize (10 : Int) ^ k = P at *
 generalize hn : x * t = n at *
 unfold Ret at hR
 simp only at hR
 go_enter Tryz.func61, Tryz.ntmps61
 go_wp2_with fail
 refine (hR _).mono ?_
 rintro e w1 ⟨rfl, hb1⟩
 have hb := ((below_new0 w (.cells #[.int .i64 a, .int .i64 b] 50)).then_ hb1).then_ (below_new0 w1 (.cells #[.int .i64 x, .int .i64 y] 50))
 have KN := Known.made w1 50 #[.int .i64 x, .int .i64 y]
 obtain ⟨f0, f1⟩ := KN.two
 have hlt := KN.lt
 have hT : Tab (w1.alloc (.cells #[.int .i64 x, .int .i64 y] 50)) := ht.on hb
 clear KN hb1
 go_wp2_with fail
 generalize w1.alloc (.cells #[.int .i64 x, .int .i64 y] 50) = w2 at *
 refine wp_region_gr (by kernel_rfl) (by kernel_rfl) ?_
 repeat (go_big_quiet_step (first | (go_at_call 57; exact gr_same (hp _)) | (go_at_call 58; exact gr_call (hD _ (hT.on (gr_below _ _))))))
 refine wpQuiet_nil ?_
 intro _ hw'; obtain ⟨w5, hw''⟩ := hw'; subst hw''
 have hB := gr_below w2 w5
 generalize gr w2 w5 = w4 at *
 go_wp2
 go_ret2
 exact ⟨rfl, hb.then_ hB⟩
theorem fixedR_ok (a b x y : Int) (k : Nat) (w : World) (hk : k ≤ 9) (v : Num.val x y = true) (h1 : 1 ≤ (10 : Int) ^ k / y) (hR : Ret 155 #[.agg #[.int .i64 a, .int .i64 b], .int .i64 k] (x, y, 0)) :
  Calls Tryz.prog 104 #[.agg #[.int .i64 a, .int .i64 b], .int .i64 k] w fun e w' => e = .returned (.tuple #[.string ⟨(decZ (x * ((10 : Int) ^ k / y)) k).toArray⟩, .int .i64 0]) ∧ Below w.heap.size w w' := by
 obtain ⟨k1, k2, k3, k4, k5⟩ := Num.val_iff.1 v
 have hN := fun w => notation_any x y k w k1 k2 k3 k4 hk h1
 generalize decZ (x * ((10 : Int) ^ k / y)) k = R at *
 unfold Ret at hR
 simp only at hR
 go_enter Tryz.func104, Tryz.ntmps104
 go_wp2_with fail
 refine (hR _).mono ?_
 rintro e w1 ⟨rfl, hb1⟩
 have hb := ((below_new0 w (.cells #[.int .i64 a, .int .i64 b] 50)).then_ hb1).then_ (below_new0 w1 (.cells #[.int .i64 x, .int .i64 y] 50))
 obtain ⟨f0, f1⟩ := (Known.made w1 50 #[.int .i64 x, .int .i64 y]).two
 go_wp2_with fail
 refine (hN _).mono ?_
 rintro e w2 ⟨rfl, hb2⟩
 go_wp2
 go_ret2
 exact ⟨rfl, hb.then_ hb2⟩
theorem round_den {a b : Int} {k : Int} {x y : Int} (h : roundV a b k = (x, y, 0)) : 0 ≤ k ∧ k ≤ 9 ∧ Num.val x y = true ∧ 1 ≤ (10 : Int) ^ k.toNat / y := by
 unfold roundV at h
 split at h
 ·split at h
  ·cases h
  ·rename_i hk
   have hp := pow_bd k.toNat (by omega)
   have hd : (10 : Int) ^ k.toNat ≠ 0 := by omega
   have he : (Num.red (rndQ a b (10 ^ k.toNat)) (10 ^ k.toNat)).2.2 = 0 := by rw [h]
   have hr : Num.rB (rndQ a b (10 ^ k.toNat)) (10 ^ k.toNat) = true := by
    cases hr : Num.rB (rndQ a b (10 ^ k.toNat)) (10 ^ k.toNat)
    ·simp [Num.red, Num.redE, hr] at he
    ·rfl
   have hv := Num.red_val hd hr
   have hle := Num.rD_le (rndQ a b (10 ^ k.toNat)) hd
   have hs : Num.sD ((10 : Int) ^ k.toNat) = (10 : Int) ^ k.toNat := by unfold Num.sD; rw [if_neg (by omega)]
   have hx : Num.rN (rndQ a b (10 ^ k.toNat)) (10 ^ k.toNat) = x ∧ Num.rD (rndQ a b (10 ^ k.toNat)) (10 ^ k.toNat) = y := by
    simp only [Num.red, Num.redN, Num.redD, Num.redE, hr, if_true, Prod.mk.injEq] at h
    exact ⟨h.1, h.2.1⟩
   rw [hx.1, hx.2] at hv
   rw [hx.2, hs] at hle
   have := Num.val_iff.1 hv
   exact ⟨by omega, by omega, hv, (Int.le_ediv_iff_mul_le (by omega)).2 (by omega)⟩
 ·cases h
end Go.Proofs.YtcklofamaooegaaGreatDoor
