/-
  Parse, by the reference, case by case. Conditions: those typed in each theorem.
-/
import Derived.Test.YtbddbhamkclndaaDoorNumCut
import Derived.Test.YtbddbhamkclndaaDoorNumOps
import Derived.Test.YtbddbhamkclndaaDoorNumRed
import Derived.Test.YtbddbhamkclndaaDoorTail
namespace Go.Proofs.YtbddbhamkclndaaDoor
open Go.RowKit
set_option linter.unusedVariables false

set_option maxRecDepth 10000 in
set_option maxHeartbeats 1000000 in
theorem parseR_p_b1 (s R : ByteArray) (w : World) (hs : s.size ≤ 100) (h0 : 0 < s.size) (hc : (s[0].toNat : Int) = 43) (hR : s.extract 1 s.size = R) (i : Nat) (hi : i < R.size) (hp : ¬ (R[i].toNat : Int) = 46)
    (hD : ∀ w, Calls Tryd.prog 59 #[.string R, .int .i64 0] w fun e w' => e = .returned (.int .i64 i) ∧ w = w') :
    Calls Tryd.prog 42 #[.string s] w fun e w' => e = .returned (.tuple #[.agg #[.int .i64 0, .int .i64 0], .int .i64 1]) ∧ Below w.heap.size w w' := by
  have hRs : R.size = s.size - 1 := by rw [← hR, ByteArray.size_extract]; omega
  have hp' : ((R[i].toNat : Int) == 46) = false := by simpa using hp
  have KR := Known.made w 23 #[.int .i64 0, .int .i64 0]
  have hb := below_new0 w (.cells #[.int .i64 0, .int .i64 0] 23)
  have hl : w.heap.size ≤ w.heap.size := Nat.le_refl _
  go_enter Tryd.func42, Tryd.ntmps42
  go_wp2_with fail
  refine (hD _).mono ?_
  rintro e w1 ⟨rfl, rfl⟩
  obtain ⟨r0, r1⟩ := KR.two
  go_wp2_with fail
  exact bodyPost_ret (v := .tuple #[.agg #[.int .i64 0, .int .i64 0], .int .i64 1]) (by simp [results, Tryd.results42, go_sem, r0, r1]) rfl ⟨rfl, hb⟩

set_option maxRecDepth 10000 in
set_option maxHeartbeats 1000000 in
theorem parseR_p_b2 (s R : ByteArray) (w : World) (hs : s.size ≤ 100) (h0 : 0 < s.size) (hc : (s[0].toNat : Int) = 43) (hR : s.extract 1 s.size = R) (h9 : 9 < R.size)
    (hD : ∀ w, Calls Tryd.prog 59 #[.string R, .int .i64 0] w fun e w' => e = .returned (.int .i64 R.size) ∧ w = w') :
    Calls Tryd.prog 42 #[.string s] w fun e w' => e = .returned (.tuple #[.agg #[.int .i64 0, .int .i64 0], .int .i64 1]) ∧ Below w.heap.size w w' := by
  have hRs : R.size = s.size - 1 := by rw [← hR, ByteArray.size_extract]; omega
  have KR := Known.made w 23 #[.int .i64 0, .int .i64 0]
  have hb := below_new0 w (.cells #[.int .i64 0, .int .i64 0] 23)
  have hl : w.heap.size ≤ w.heap.size := Nat.le_refl _
  go_enter Tryd.func42, Tryd.ntmps42
  go_wp2_with fail
  refine (hD _).mono ?_
  rintro e w1 ⟨rfl, rfl⟩
  obtain ⟨r0, r1⟩ := KR.two
  go_wp2_with fail
  exact bodyPost_ret (v := .tuple #[.agg #[.int .i64 0, .int .i64 0], .int .i64 1]) (by simp [results, Tryd.results42, go_sem, r0, r1]) rfl ⟨rfl, hb⟩

set_option maxRecDepth 10000 in
set_option maxHeartbeats 1000000 in
theorem parseR_p_b3 (s R : ByteArray) (w : World) (hs : s.size ≤ 100) (h0 : 0 < s.size) (hc : (s[0].toNat : Int) = 43) (hR : s.extract 1 s.size = R) (h9 : R.size = 0)
    (hD : ∀ w, Calls Tryd.prog 59 #[.string R, .int .i64 0] w fun e w' => e = .returned (.int .i64 R.size) ∧ w = w') :
    Calls Tryd.prog 42 #[.string s] w fun e w' => e = .returned (.tuple #[.agg #[.int .i64 0, .int .i64 0], .int .i64 1]) ∧ Below w.heap.size w w' := by
  have hRs : R.size = s.size - 1 := by rw [← hR, ByteArray.size_extract]; omega
  have KR := Known.made w 23 #[.int .i64 0, .int .i64 0]
  have hb := below_new0 w (.cells #[.int .i64 0, .int .i64 0] 23)
  have hl : w.heap.size ≤ w.heap.size := Nat.le_refl _
  go_enter Tryd.func42, Tryd.ntmps42
  go_wp2_with fail
  refine (hD _).mono ?_
  rintro e w1 ⟨rfl, rfl⟩
  obtain ⟨r0, r1⟩ := KR.two
  go_wp2_with fail
  exact bodyPost_ret (v := .tuple #[.agg #[.int .i64 0, .int .i64 0], .int .i64 1]) (by simp [results, Tryd.results42, go_sem, r0, r1]) rfl ⟨rfl, hb⟩

set_option maxRecDepth 10000 in
set_option maxHeartbeats 1000000 in
theorem parseR_p_b4 (s R : ByteArray) (w : World) (hs : s.size ≤ 100) (h0 : 0 < s.size) (hc : (s[0].toNat : Int) = 43) (hR : s.extract 1 s.size = R) (h9 : R.size ≤ 9) (h1 : 0 < R.size)
    (hD : ∀ w, Calls Tryd.prog 59 #[.string R, .int .i64 0] w fun e w' => e = .returned (.int .i64 R.size) ∧ w = w') (v : Int)
    (hV : ∀ w, Calls Tryd.prog 60 #[.string R] w fun e w' => e = .returned (.int .i64 v) ∧ w = w')
    (v0 : 0 ≤ v) (v1 : v ≤ 1000000000000000000) :
    Calls Tryd.prog 42 #[.string s] w fun e w' => e = .returned (.tuple #[.agg #[.int .i64 (Num.redN v 1), .int .i64 (Num.redD v 1)], .int .i64 (Num.redE v 1)]) ∧ Below w.heap.size w w' := by
  have e1 : ¬ R = ByteArray.empty := by intro h; have := congrArg ByteArray.size h; rw [show ByteArray.empty.size = 0 from rfl] at this; omega
  have e2 : decide (R = ByteArray.empty) = false := by rw [decide_eq_false_iff_not]; exact e1
  have e3 : (R.size == 0) = false := by simp; omega
  have e4 : ((R.size : Int) == 0) = false := by simp; omega
  have KR := Known.made w 23 #[.int .i64 0, .int .i64 0]
  have hb := below_new0 w (.cells #[.int .i64 0, .int .i64 0] 23)
  have hl : w.heap.size ≤ w.heap.size := Nat.le_refl _
  go_enter Tryd.func42, Tryd.ntmps42
  go_wp2_with fail
  refine (hD _).mono ?_
  rintro e w1 ⟨rfl, rfl⟩
  go_wp2_with fail
  refine (hV _).mono ?_
  rintro e w1 ⟨rfl, rfl⟩
  go_wp2_with fail
  refine (form_any v 1 _ (by omega) (by omega) (by omega) (by omega) (by omega)).mono ?_
  rintro e w5 ⟨rfl, hb5⟩
  replace hb := hb.then_ hb5
  replace KR := KR.on hb5
  have q0 := KR.free 0
  have q1 := KR.free 1
  obtain ⟨r0, r1⟩ := KR.two
  have Kz : Known _ _ _ #[.int .i64 (Num.redN v 1), .int .i64 (Num.redD v 1)] := (KR.put 0 (.int .i64 (Num.redN v 1))).put 1 (.int .i64 (Num.redD v 1))
  obtain ⟨z0, z1⟩ := Kz.two
  go_wp2_with fail
  exact bodyPost_ret (v := .tuple #[.agg #[.int .i64 (Num.redN v 1), .int .i64 (Num.redD v 1)], .int .i64 (Num.redE v 1)]) (by simp [results, Tryd.results42, go_sem, z0, z1]) rfl ⟨rfl, (hb.setCell (p := ⟨w.heap.size, 0, none⟩) hl _).setCell (p := ⟨w.heap.size, 1, none⟩) hl _⟩

set_option maxRecDepth 10000 in
set_option maxHeartbeats 1000000 in
theorem parseR_p_b5 (s R : ByteArray) (w : World) (hs : s.size ≤ 100) (h0 : 0 < s.size) (hc : (s[0].toNat : Int) = 43) (hR : s.extract 1 s.size = R) (i : Nat) (hi : i < R.size) (hp : (R[i].toNat : Int) = 46) (k : Nat) (hk : k < R.size)
    (hD : ∀ w, Calls Tryd.prog 59 #[.string R, .int .i64 0] w fun e w' => e = .returned (.int .i64 i) ∧ w = w')
    (hK : ∀ w, Calls Tryd.prog 59 #[.string R, .int .i64 ((i : Int) + 1)] w fun e w' => e = .returned (.int .i64 k) ∧ w = w') :
    Calls Tryd.prog 42 #[.string s] w fun e w' => e = .returned (.tuple #[.agg #[.int .i64 0, .int .i64 0], .int .i64 1]) ∧ Below w.heap.size w w' := by
  have hRs : R.size = s.size - 1 := by rw [← hR, ByteArray.size_extract]; omega
  have KR := Known.made w 23 #[.int .i64 0, .int .i64 0]
  have hb := below_new0 w (.cells #[.int .i64 0, .int .i64 0] 23)
  have hl : w.heap.size ≤ w.heap.size := Nat.le_refl _
  go_enter Tryd.func42, Tryd.ntmps42
  go_wp2_with fail
  refine (hD _).mono ?_
  rintro e w1 ⟨rfl, rfl⟩
  go_wp2_with fail
  refine (hK _).mono ?_
  rintro e w1 ⟨rfl, rfl⟩
  obtain ⟨r0, r1⟩ := KR.two
  go_wp2_with fail
  exact bodyPost_ret (v := .tuple #[.agg #[.int .i64 0, .int .i64 0], .int .i64 1]) (by simp [results, Tryd.results42, go_sem, r0, r1]) rfl ⟨rfl, hb⟩

set_option maxRecDepth 10000 in
set_option maxHeartbeats 1000000 in
theorem parseR_p_b6 (s R : ByteArray) (w : World) (hs : s.size ≤ 100) (h0 : 0 < s.size) (hc : (s[0].toNat : Int) = 43) (hR : s.extract 1 s.size = R) (i : Nat) (hi : i < R.size) (hp : (R[i].toNat : Int) = 46) (h9 : 9 < i)
    (hD : ∀ w, Calls Tryd.prog 59 #[.string R, .int .i64 0] w fun e w' => e = .returned (.int .i64 i) ∧ w = w')
    (hK : ∀ w, Calls Tryd.prog 59 #[.string R, .int .i64 ((i : Int) + 1)] w fun e w' => e = .returned (.int .i64 R.size) ∧ w = w') :
    Calls Tryd.prog 42 #[.string s] w fun e w' => e = .returned (.tuple #[.agg #[.int .i64 0, .int .i64 0], .int .i64 1]) ∧ Below w.heap.size w w' := by
  have hRs : R.size = s.size - 1 := by rw [← hR, ByteArray.size_extract]; omega
  have KR := Known.made w 23 #[.int .i64 0, .int .i64 0]
  have hb := below_new0 w (.cells #[.int .i64 0, .int .i64 0] 23)
  have hl : w.heap.size ≤ w.heap.size := Nat.le_refl _
  go_enter Tryd.func42, Tryd.ntmps42
  go_wp2_with fail
  refine (hD _).mono ?_
  rintro e w1 ⟨rfl, rfl⟩
  go_wp2_with fail
  refine (hK _).mono ?_
  rintro e w1 ⟨rfl, rfl⟩
  obtain ⟨r0, r1⟩ := KR.two
  go_wp2_with fail
  exact bodyPost_ret (v := .tuple #[.agg #[.int .i64 0, .int .i64 0], .int .i64 1]) (by simp [results, Tryd.results42, go_sem, r0, r1]) rfl ⟨rfl, hb⟩

set_option maxRecDepth 10000 in
set_option maxHeartbeats 1000000 in
theorem parseR_p_b7 (s R : ByteArray) (w : World) (hs : s.size ≤ 100) (h0 : 0 < s.size) (hc : (s[0].toNat : Int) = 43) (hR : s.extract 1 s.size = R) (i : Nat) (hi : i < R.size) (hp : (R[i].toNat : Int) = 46) (h9 : i ≤ 9) (hk : R.size = i + 1)
    (hD : ∀ w, Calls Tryd.prog 59 #[.string R, .int .i64 0] w fun e w' => e = .returned (.int .i64 i) ∧ w = w')
    (hK : ∀ w, Calls Tryd.prog 59 #[.string R, .int .i64 ((i : Int) + 1)] w fun e w' => e = .returned (.int .i64 R.size) ∧ w = w') :
    Calls Tryd.prog 42 #[.string s] w fun e w' => e = .returned (.tuple #[.agg #[.int .i64 0, .int .i64 0], .int .i64 1]) ∧ Below w.heap.size w w' := by
  have hRs : R.size = s.size - 1 := by rw [← hR, ByteArray.size_extract]; omega
  have KR := Known.made w 23 #[.int .i64 0, .int .i64 0]
  have hb := below_new0 w (.cells #[.int .i64 0, .int .i64 0] 23)
  have hl : w.heap.size ≤ w.heap.size := Nat.le_refl _
  go_enter Tryd.func42, Tryd.ntmps42
  go_wp2_with fail
  refine (hD _).mono ?_
  rintro e w1 ⟨rfl, rfl⟩
  go_wp2_with fail
  refine (hK _).mono ?_
  rintro e w1 ⟨rfl, rfl⟩
  obtain ⟨r0, r1⟩ := KR.two
  go_wp2_with fail
  exact bodyPost_ret (v := .tuple #[.agg #[.int .i64 0, .int .i64 0], .int .i64 1]) (by simp [results, Tryd.results42, go_sem, r0, r1]) rfl ⟨rfl, hb⟩

set_option maxRecDepth 10000 in
set_option maxHeartbeats 1000000 in
theorem parseR_p_b8 (s R : ByteArray) (w : World) (hs : s.size ≤ 100) (h0 : 0 < s.size) (hc : (s[0].toNat : Int) = 43) (hR : s.extract 1 s.size = R) (i : Nat) (hi : i < R.size) (hp : (R[i].toNat : Int) = 46) (h9 : i ≤ 9) (hk : i + 1 + 9 < R.size)
    (hD : ∀ w, Calls Tryd.prog 59 #[.string R, .int .i64 0] w fun e w' => e = .returned (.int .i64 i) ∧ w = w')
    (hK : ∀ w, Calls Tryd.prog 59 #[.string R, .int .i64 ((i : Int) + 1)] w fun e w' => e = .returned (.int .i64 R.size) ∧ w = w') :
    Calls Tryd.prog 42 #[.string s] w fun e w' => e = .returned (.tuple #[.agg #[.int .i64 0, .int .i64 0], .int .i64 1]) ∧ Below w.heap.size w w' := by
  have hRs : R.size = s.size - 1 := by rw [← hR, ByteArray.size_extract]; omega
  have KR := Known.made w 23 #[.int .i64 0, .int .i64 0]
  have hb := below_new0 w (.cells #[.int .i64 0, .int .i64 0] 23)
  have hl : w.heap.size ≤ w.heap.size := Nat.le_refl _
  go_enter Tryd.func42, Tryd.ntmps42
  go_wp2_with fail
  refine (hD _).mono ?_
  rintro e w1 ⟨rfl, rfl⟩
  go_wp2_with fail
  refine (hK _).mono ?_
  rintro e w1 ⟨rfl, rfl⟩
  obtain ⟨r0, r1⟩ := KR.two
  go_wp2_with fail
  exact bodyPost_ret (v := .tuple #[.agg #[.int .i64 0, .int .i64 0], .int .i64 1]) (by simp [results, Tryd.results42, go_sem, r0, r1]) rfl ⟨rfl, hb⟩

set_option maxRecDepth 10000 in
set_option maxHeartbeats 1000000 in
theorem parseR_p_b9 (s R : ByteArray) (w : World) (hs : s.size ≤ 100) (h0 : 0 < s.size) (hc : (s[0].toNat : Int) = 43) (hR : s.extract 1 s.size = R) (i : Nat) (hi : i < R.size) (hp : (R[i].toNat : Int) = 46) (h9 : i ≤ 9) (q : Nat) (hq1 : 0 < q) (hq9 : q ≤ 9) (hk : R.size = i + 1 + q)
    (hD : ∀ w, Calls Tryd.prog 59 #[.string R, .int .i64 0] w fun e w' => e = .returned (.int .i64 i) ∧ w = w')
    (hK : ∀ w, Calls Tryd.prog 59 #[.string R, .int .i64 ((i : Int) + 1)] w fun e w' => e = .returned (.int .i64 R.size) ∧ w = w') (a b P : Int) (W Q : ByteArray) (hW : R.extract 0 i = W) (hQ : R.extract (i + 1) R.size = Q)
    (hA : ∀ w, Calls Tryd.prog 60 #[.string W] w fun e w' => e = .returned (.int .i64 a) ∧ w = w')
    (hB : ∀ w, Calls Tryd.prog 60 #[.string Q] w fun e w' => e = .returned (.int .i64 b) ∧ w = w')
    (hP : ∀ w, Calls Tryd.prog 32 #[.int .i64 q] w fun e w' => e = .returned (.int .i64 P) ∧ w = w')
    (a0 : 0 ≤ a) (a1 : a ≤ 1000000000) (b0 : 0 ≤ b) (b1 : b ≤ 1000000000) (P0 : 1 ≤ P) (P1 : P ≤ 1000000000) :
    Calls Tryd.prog 42 #[.string s] w fun e w' => e = .returned (.tuple #[.agg #[.int .i64 (Num.redN (a * P + b) P), .int .i64 (Num.redD (a * P + b) P)], .int .i64 (Num.redE (a * P + b) P)]) ∧ Below w.heap.size w w' := by
  have hRs : R.size = s.size - 1 := by rw [← hR, ByteArray.size_extract]; omega
  have hab := mul_bd (x := a) (y := P) (by omega) a1 (by omega) P1
  have hab0 : 0 ≤ a * P := Int.mul_nonneg a0 (by omega)
  have e1 : ¬ R = ByteArray.empty := by intro h; have := congrArg ByteArray.size h; rw [show ByteArray.empty.size = 0 from rfl] at this; omega
  have e2 : decide (R = ByteArray.empty) = false := by rw [decide_eq_false_iff_not]; exact e1
  have e3 : (R.size == 0) = false := by simp; omega
  have e4 : ((R.size : Int) == 0) = false := by simp; omega
  have e5 : ((i : Int) + 1 + (q : Int) == 0) = false := by simp; omega
  have hG := fun w => form_any (a * P + b) P w (by omega) (by omega) (by omega) (by omega) (by omega)
  generalize Num.redN (a * P + b) P = nN at *
  generalize Num.redD (a * P + b) P = nD at *
  generalize Num.redE (a * P + b) P = nE at *
  have KR := Known.made w 23 #[.int .i64 0, .int .i64 0]
  have hb := below_new0 w (.cells #[.int .i64 0, .int .i64 0] 23)
  have hl : w.heap.size ≤ w.heap.size := Nat.le_refl _
  go_enter Tryd.func42, Tryd.ntmps42
  go_wp2_with fail
  refine (hD _).mono ?_
  rintro e w1 ⟨rfl, rfl⟩
  go_wp2_with fail
  refine (hK _).mono ?_
  rintro e w1 ⟨rfl, rfl⟩
  have hP2 : ∀ w, Calls Tryd.prog 32 #[.int .i64 ((i : Int) + 1 + q - i - 1)] w fun e w' => e = .returned (.int .i64 P) ∧ w = w' := by rw [show (i : Int) + 1 + q - i - 1 = q by omega]; exact hP
  have hQ2 : R.extract (i + 1) (i + 1 + q) = Q := by rw [← hk]; exact hQ
  go_wp2_with fail
  refine (hP2 _).mono ?_
  rintro e w1 ⟨rfl, rfl⟩
  clear hD hK hP hP2
  go_wp2_with fail
  refine wp_region_gr_tail 18 (by kernel_rfl) (by kernel_rfl) ?_
  simp only [List.take_succ_cons, List.take_zero, List.drop_succ_cons, List.drop_zero]
  repeat (go_big_quiet_step (first | (go_at_call 60; with_reducible exact gr_same (hA _)) | (go_at_call 60; with_reducible exact gr_same (hB _)) | (go_at_call 45; exact gr_call (hG _))))
  refine wpQuiet_nil ?_
  intro _ hw'; obtain ⟨w5, hw''⟩ := hw'; subst hw''
  have hBel := gr_below (w.alloc (.cells #[.int .i64 0, .int .i64 0] 23)) w5
  generalize gr (w.alloc (.cells #[.int .i64 0, .int .i64 0] 23)) w5 = w3 at *
  replace hb := hb.then_ hBel
  replace KR := KR.on hBel
  have q0 := KR.free 0
  have q1 := KR.free 1
  obtain ⟨r0, r1⟩ := KR.two
  have Kz : Known _ _ _ #[.int .i64 nN, .int .i64 nD] := (KR.put 0 (.int .i64 nN)).put 1 (.int .i64 nD)
  obtain ⟨z0, z1⟩ := Kz.two
  go_wp2_with fail
  exact bodyPost_ret (v := .tuple #[.agg #[.int .i64 nN, .int .i64 nD], .int .i64 nE]) (by simp [results, Tryd.results42, go_sem, z0, z1]) rfl ⟨rfl, (hb.setCell (p := ⟨w.heap.size, 0, none⟩) hl _).setCell (p := ⟨w.heap.size, 1, none⟩) hl _⟩

end Go.Proofs.YtbddbhamkclndaaDoor
