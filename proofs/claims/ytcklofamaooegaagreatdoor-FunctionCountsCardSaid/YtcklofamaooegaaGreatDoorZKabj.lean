/-
  The claim's own texts, packed. Conditions: those typed in each theorem.
-/
import Derived.Test.YtcklofamaooegaaGreatDoorZKabi
import Derived.Test.YtcklofamaooegaaGreatDoorZKaai
import Derived.Test.YtcklofamaooegaaGreatDoorZKaah
import Derived.Test.YtcklofamaooegaaGreatDoorZKaaf
import Derived.Test.YtcklofamaooegaaGreatDoorZKaal
import Derived.Test.YtcklofamaooegaaGreatDoorZKaam
set_option maxHeartbeats 4000000
set_option maxRecDepth 10000
set_option linter.unusedVariables false
namespace Go.Proofs.YtcklofamaooegaaGreatDoor
open Go.RowKit
theorem parseR_e_b3 (s : ByteArray) (w : World) (hs : s.size ≤ 400) (h0 : s.size = 0) (h9 : s.size = 0)
  (hD : ∀ w, Calls Tryz.prog 201 #[.string s, .int .i64 0] w fun e w' => e = .returned (.int .i64 s.size) ∧ w = w') :
  Calls Tryz.prog 143 #[.string s] w fun e w' => e = .returned (.tuple #[.agg #[.int .i64 0, .int .i64 0], .int .i64 1]) ∧ Below w.heap.size w w' := by
 have KR := Known.made w 50 #[.int .i64 0, .int .i64 0]
 have hb := below_new0 w (.cells #[.int .i64 0, .int .i64 0] 50)
 have hl : w.heap.size ≤ w.heap.size := Nat.le_refl _
 go_enter Tryz.func143, Tryz.ntmps143
 go_wp2_with fail
 refine (hD _).mono ?_
 rintro e w1 ⟨rfl, rfl⟩
 obtain ⟨r0, r1⟩ := KR.two
 go_wp2_with fail
 exact bodyPost_ret (v := .tuple #[.agg #[.int .i64 0, .int .i64 0], .int .i64 1]) (by simp [results, Tryz.results143, go_sem, r0, r1]) rfl ⟨rfl, hb⟩
theorem parseR_n_b1 (s : ByteArray) (w : World) (hs : s.size ≤ 400) (h0 : 0 < s.size) (hc : ¬ (s[0].toNat : Int) = 43) (hd : ¬ (s[0].toNat : Int) = 45) (i : Nat) (hi : i < s.size) (hp : ¬ (s[i].toNat : Int) = 46)
  (hD : ∀ w, Calls Tryz.prog 201 #[.string s, .int .i64 0] w fun e w' => e = .returned (.int .i64 i) ∧ w = w') :
  Calls Tryz.prog 143 #[.string s] w fun e w' => e = .returned (.tuple #[.agg #[.int .i64 0, .int .i64 0], .int .i64 1]) ∧ Below w.heap.size w w' := by
 have hc' : ((s[0].toNat : Int) == 43) = false := by simpa using hc
 have hd' : ((s[0].toNat : Int) == 45) = false := by simpa using hd
 have hp' : ((s[i].toNat : Int) == 46) = false := by simpa using hp
 have KR := Known.made w 50 #[.int .i64 0, .int .i64 0]
 have hb := below_new0 w (.cells #[.int .i64 0, .int .i64 0] 50)
 have hl : w.heap.size ≤ w.heap.size := Nat.le_refl _
 go_enter Tryz.func143, Tryz.ntmps143
 go_wp2_with fail
 refine (hD _).mono ?_
 rintro e w1 ⟨rfl, rfl⟩
 obtain ⟨r0, r1⟩ := KR.two
 go_wp2_with fail
 exact bodyPost_ret (v := .tuple #[.agg #[.int .i64 0, .int .i64 0], .int .i64 1]) (by simp [results, Tryz.results143, go_sem, r0, r1]) rfl ⟨rfl, hb⟩
theorem parseR_n_b2 (s : ByteArray) (w : World) (hs : s.size ≤ 400) (h0 : 0 < s.size) (hc : ¬ (s[0].toNat : Int) = 43) (hd : ¬ (s[0].toNat : Int) = 45) (h9 : 9 < s.size)
  (hD : ∀ w, Calls Tryz.prog 201 #[.string s, .int .i64 0] w fun e w' => e = .returned (.int .i64 s.size) ∧ w = w') :
  Calls Tryz.prog 143 #[.string s] w fun e w' => e = .returned (.tuple #[.agg #[.int .i64 0, .int .i64 0], .int .i64 1]) ∧ Below w.heap.size w w' := by
 have hc' : ((s[0].toNat : Int) == 43) = false := by simpa using hc
 have hd' : ((s[0].toNat : Int) == 45) = false := by simpa using hd
 have KR := Known.made w 50 #[.int .i64 0, .int .i64 0]
 have hb := below_new0 w (.cells #[.int .i64 0, .int .i64 0] 50)
 have hl : w.heap.size ≤ w.heap.size := Nat.le_refl _
 go_enter Tryz.func143, Tryz.ntmps143
 go_wp2_with fail
 refine (hD _).mono ?_
 rintro e w1 ⟨rfl, rfl⟩
 obtain ⟨r0, r1⟩ := KR.two
 go_wp2_with fail
 exact bodyPost_ret (v := .tuple #[.agg #[.int .i64 0, .int .i64 0], .int .i64 1]) (by simp [results, Tryz.results143, go_sem, r0, r1]) rfl ⟨rfl, hb⟩
theorem parseR_n_b4 (s : ByteArray) (w : World) (hs : s.size ≤ 400) (h0 : 0 < s.size) (hc : ¬ (s[0].toNat : Int) = 43) (hd : ¬ (s[0].toNat : Int) = 45) (h9 : s.size ≤ 9) (h1 : 0 < s.size)
  (hD : ∀ w, Calls Tryz.prog 201 #[.string s, .int .i64 0] w fun e w' => e = .returned (.int .i64 s.size) ∧ w = w') (v : Int)
  (hV : ∀ w, Calls Tryz.prog 203 #[.string s] w fun e w' => e = .returned (.int .i64 v) ∧ w = w')
  (v0 : 0 ≤ v) (v1 : v ≤ 1000000000000000000) :
  Calls Tryz.prog 143 #[.string s] w fun e w' => e = .returned (.tuple #[.agg #[.int .i64 (Num.redN v 1), .int .i64 (Num.redD v 1)], .int .i64 (Num.redE v 1)]) ∧ Below w.heap.size w w' := by
 have hc' : ((s[0].toNat : Int) == 43) = false := by simpa using hc
 have hd' : ((s[0].toNat : Int) == 45) = false := by simpa using hd
 have e1 : ¬ s = ByteArray.empty := by intro h; have := congrArg ByteArray.size h; rw [show ByteArray.empty.size = 0 from rfl] at this; omega
 have e2 : decide (s = ByteArray.empty) = false := by rw [decide_eq_false_iff_not]; exact e1
 have e3 : (s.size == 0) = false := by simp; omega
 have e4 : ((s.size : Int) == 0) = false := by simp; omega
 have KR := Known.made w 50 #[.int .i64 0, .int .i64 0]
 have hb := below_new0 w (.cells #[.int .i64 0, .int .i64 0] 50)
 have hl : w.heap.size ≤ w.heap.size := Nat.le_refl _
 go_enter Tryz.func143, Tryz.ntmps143
 go_wp2_with fail
 refine (hD _).mono ?_
 rintro e w1 ⟨rfl, rfl⟩
 go_wp2_with fail
 refine (hV _).mono ?_
 rintro e w1 ⟨rfl, rfl⟩
 go_wp2_with fail
 refine (form_any v 1 _ (by omega) (by omega) (by omega) (by omega) (by omega)).mono ?_
 rintro e w5 ⟨rfl, hb5⟩
 replace hb := hb.then_ hb5
 replace KR := KR.on hb5
 have q0 := KR.free 0
 have q1 := KR.free 1
 obtain ⟨r0, r1⟩ := KR.two
 have Kz : Known _ _ _ #[.int .i64 (Num.redN v 1), .int .i64 (Num.redD v 1)] := (KR.put 0 (.int .i64 (Num.redN v 1))).put 1 (.int .i64 (Num.redD v 1))
 obtain ⟨z0, z1⟩ := Kz.two
 go_wp2_with fail
 exact bodyPost_ret (v := .tuple #[.agg #[.int .i64 (Num.redN v 1), .int .i64 (Num.redD v 1)], .int .i64 (Num.redE v 1)]) (by simp [results, Tryz.results143, go_sem, z0, z1]) rfl ⟨rfl, (hb.setCell (p := ⟨w.heap.size, 0, none⟩) hl _).setCell (p := ⟨w.heap.size, 1, none⟩) hl _⟩
theorem parseR_n_b5 (s : ByteArray) (w : World) (hs : s.size ≤ 400) (h0 : 0 < s.size) (hc : ¬ (s[0].toNat : Int) = 43) (hd : ¬ (s[0].toNat : Int) = 45) (i : Nat) (hi : i < s.size) (hp : (s[i].toNat : Int) = 46) (k : Nat) (hk : k < s.size)
  (hD : ∀ w, Calls Tryz.prog 201 #[.string s, .int .i64 0] w fun e w' => e = .returned (.int .i64 i) ∧ w = w')
  (hK : ∀ w, Calls Tryz.prog 201 #[.string s, .int .i64 ((i : Int) + 1)] w fun e w' => e = .returned (.int .i64 k) ∧ w = w') :
  Calls Tryz.prog 143 #[.string s] w fun e w' => e = .returned (.tuple #[.agg #[.int .i64 0, .int .i64 0], .int .i64 1]) ∧ Below w.heap.size w w' := by
 have hc' : ((s[0].toNat : Int) == 43) = false := by simpa using hc
 have hd' : ((s[0].toNat : Int) == 45) = false := by simpa using hd
 have KR := Known.made w 50 #[.int .i64 0, .int .i64 0]
 have hb := below_new0 w (.cells #[.int .i64 0, .int .i64 0] 50)
 have hl : w.heap.size ≤ w.heap.size := Nat.le_refl _
 go_enter Tryz.func143, Tryz.ntmps143
 go_wp2_with fail
 refine (hD _).mono ?_
 rintro e w1 ⟨rfl, rfl⟩
 go_wp2_with fail
 refine (hK _).mono ?_
 rintro e w1 ⟨rfl, rfl⟩
 obtain ⟨r0, r1⟩ := KR.two
 go_wp2_with fail
 exact bodyPost_ret (v := .tuple #[.agg #[.int .i64 0, .int .i64 0], .int .i64 1]) (by simp [results, Tryz.results143, go_sem, r0, r1]) rfl ⟨rfl, hb⟩
theorem parseR_n_b6 (s : ByteArray) (w : World) (hs : s.size ≤ 400) (h0 : 0 < s.size) (hc : ¬ (s[0].toNat : Int) = 43) (hd : ¬ (s[0].toNat : Int) = 45) (i : Nat) (hi : i < s.size) (hp : (s[i].toNat : Int) = 46) (h9 : 9 < i)
  (hD : ∀ w, Calls Tryz.prog 201 #[.string s, .int .i64 0] w fun e w' => e = .returned (.int .i64 i) ∧ w = w')
  (hK : ∀ w, Calls Tryz.prog 201 #[.string s, .int .i64 ((i : Int) + 1)] w fun e w' => e = .returned (.int .i64 s.size) ∧ w = w') :
  Calls Tryz.prog 143 #[.string s] w fun e w' => e = .returned (.tuple #[.agg #[.int .i64 0, .int .i64 0], .int .i64 1]) ∧ Below w.heap.size w w' := by
 have hc' : ((s[0].toNat : Int) == 43) = false := by simpa using hc
 have hd' : ((s[0].toNat : Int) == 45) = false := by simpa using hd
 have KR := Known.made w 50 #[.int .i64 0, .int .i64 0]
 have hb := below_new0 w (.cells #[.int .i64 0, .int .i64 0] 50)
 have hl : w.heap.size ≤ w.heap.size := Nat.le_refl _
 go_enter Tryz.func143, Tryz.ntmps143
 go_wp2_with fail
 refine (hD _).mono ?_
 rintro e w1 ⟨rfl, rfl⟩
 go_wp2_with fail
 refine (hK _).mono ?_
 rintro e w1 ⟨rfl, rfl⟩
 obtain ⟨r0, r1⟩ := KR.two
 go_wp2_with fail
 exact bodyPost_ret (v := .tuple #[.agg #[.int .i64 0, .int .i64 0], .int .i64 1]) (by simp [results, Tryz.results143, go_sem, r0, r1]) rfl ⟨rfl, hb⟩
theorem parseR_n_b7 (s : ByteArray) (w : World) (hs : s.size ≤ 400) (h0 : 0 < s.size) (hc : ¬ (s[0].toNat : Int) = 43) (hd : ¬ (s[0].toNat : Int) = 45) (i : Nat) (hi : i < s.size) (hp : (s[i].toNat : Int) = 46) (h9 : i ≤ 9) (hk : s.size = i + 1)
  (hD : ∀ w, Calls Tryz.prog 201 #[.string s, .int .i64 0] w fun e w' => e = .returned (.int .i64 i) ∧ w = w')
  (hK : ∀ w, Calls Tryz.prog 201 #[.string s, .int .i64 ((i : Int) + 1)] w fun e w' => e = .returned (.int .i64 s.size) ∧ w = w') :
  Calls Tryz.prog 143 #[.string s] w fun e w' => e = .returned (.tuple #[.agg #[.int .i64 0, .int .i64 0], .int .i64 1]) ∧ Below w.heap.size w w' := by
 have hc' : ((s[0].toNat : Int) == 43) = false := by simpa using hc
 have hd' : ((s[0].toNat : Int) == 45) = false := by simpa using hd
 have KR := Known.made w 50 #[.int .i64 0, .int .i64 0]
 have hb := below_new0 w (.cells #[.int .i64 0, .int .i64 0] 50)
 have hl : w.heap.size ≤ w.heap.size := Nat.le_refl _
 go_enter Tryz.func143, Tryz.ntmps143
 go_wp2_with fail
 refine (hD _).mono ?_
 rintro e w1 ⟨rfl, rfl⟩
 go_wp2_with fail
 refine (hK _).mono ?_
 rintro e w1 ⟨rfl, rfl⟩
 obtain ⟨r0, r1⟩ := KR.two
 go_wp2_with fail
 exact bodyPost_ret (v := .tuple #[.agg #[.int .i64 0, .int .i64 0], .int .i64 1]) (by simp [results, Tryz.results143, go_sem, r0, r1]) rfl ⟨rfl, hb⟩
theorem parseR_n_b8 (s : ByteArray) (w : World) (hs : s.size ≤ 400) (h0 : 0 < s.size) (hc : ¬ (s[0].toNat : Int) = 43) (hd : ¬ (s[0].toNat : Int) = 45) (i : Nat) (hi : i < s.size) (hp : (s[i].toNat : Int) = 46) (h9 : i ≤ 9) (hk : i + 1 + 9 < s.size)
  (hD : ∀ w, Calls Tryz.prog 201 #[.string s, .int .i64 0] w fun e w' => e = .returned (.int .i64 i) ∧ w = w')
  (hK : ∀ w, Calls Tryz.prog 201 #[.string s, .int .i64 ((i : Int) + 1)] w fun e w' => e = .returned (.int .i64 s.size) ∧ w = w') :
  Calls Tryz.prog 143 #[.string s] w fun e w' => e = .returned (.tuple #[.agg #[.int .i64 0, .int .i64 0], .int .i64 1]) ∧ Below w.heap.size w w' := by
 have hc' : ((s[0].toNat : Int) == 43) = false := by simpa using hc
 have hd' : ((s[0].toNat : Int) == 45) = false := by simpa using hd
 have KR := Known.made w 50 #[.int .i64 0, .int .i64 0]
 have hb := below_new0 w (.cells #[.int .i64 0, .int .i64 0] 50)
 have hl : w.heap.size ≤ w.heap.size := Nat.le_refl _
 go_enter Tryz.func143, Tryz.ntmps143
 go_wp2_with fail
 refine (hD _).mono ?_
 rintro e w1 ⟨rfl, rfl⟩
 go_wp2_with fail
 refine (hK _).mono ?_
 rintro e w1 ⟨rfl, rfl⟩
 obtain ⟨r0, r1⟩ := KR.two
 go_wp2_with fail
 exact bodyPost_ret (v := .tuple #[.agg #[.int .i64 0, .int .i64 0], .int .i64 1]) (by simp [results, Tryz.results143, go_sem, r0, r1]) rfl ⟨rfl, hb⟩
theorem parseR_n_b9 (s : ByteArray) (w : World) (hs : s.size ≤ 400) (h0 : 0 < s.size) (hc : ¬ (s[0].toNat : Int) = 43) (hd : ¬ (s[0].toNat : Int) = 45) (i : Nat) (hi : i < s.size) (hp : (s[i].toNat : Int) = 46) (h9 : i ≤ 9) (q : Nat) (hq1 : 0 < q) (hq9 : q ≤ 9) (hk : s.size = i + 1 + q)
  (hD : ∀ w, Calls Tryz.prog 201 #[.string s, .int .i64 0] w fun e w' => e = .returned (.int .i64 i) ∧ w = w')
  (hK : ∀ w, Calls Tryz.prog 201 #[.string s, .int .i64 ((i : Int) + 1)] w fun e w' => e = .returned (.int .i64 s.size) ∧ w = w') (a b P : Int) (W Q : ByteArray) (hW : s.extract 0 i = W) (hQ : s.extract (i + 1) s.size = Q)
  (hA : ∀ w, Calls Tryz.prog 203 #[.string W] w fun e w' => e = .returned (.int .i64 a) ∧ w = w')
  (hB : ∀ w, Calls Tryz.prog 203 #[.string Q] w fun e w' => e = .returned (.int .i64 b) ∧ w = w')
  (hP : ∀ w, Calls Tryz.prog 91 #[.int .i64 q] w fun e w' => e = .returned (.int .i64 P) ∧ w = w')
  (a0 : 0 ≤ a) (a1 : a ≤ 1000000000) (b0 : 0 ≤ b) (b1 : b ≤ 1000000000) (P0 : 1 ≤ P) (P1 : P ≤ 1000000000) :
  Calls Tryz.prog 143 #[.string s] w fun e w' => e = .returned (.tuple #[.agg #[.int .i64 (Num.redN (a * P + b) P), .int .i64 (Num.redD (a * P + b) P)], .int .i64 (Num.redE (a * P + b) P)]) ∧ Below w.heap.size w w' := by
 have hc' : ((s[0].toNat : Int) == 43) = false := by simpa using hc
 have hd' : ((s[0].toNat : Int) == 45) = false := by simpa using hd
 have hab := mul_bd (x := a) (y := P) (by omega) a1 (by omega) P1
 have hab0 : 0 ≤ a * P := Int.mul_nonneg a0 (by omega)
 have e1 : ¬ s = ByteArray.empty := by intro h; have := congrArg ByteArray.size h; rw [show ByteArray.empty.size = 0 from rfl] at this; omega
 have e2 : decide (s = ByteArray.empty) = false := by rw [decide_eq_false_iff_not]; exact e1
 have e3 : (s.size == 0) = false := by simp; omega
 have e4 : ((s.size : Int) == 0) = false := by simp; omega
 have e5 : ((i : Int) + 1 + (q : Int) == 0) = false := by simp; omega
 have hG := fun w => form_any (a * P + b) P w (by omega) (by omega) (by omega) (by omega) (by omega)
 generalize Num.redN (a * P + b) P = nN at *
 generalize Num.redD (a * P + b) P = nD at *
 generalize Num.redE (a * P + b) P = nE at *
 have KR := Known.made w 50 #[.int .i64 0, .int .i64 0]
 have hb := below_new0 w (.cells #[.int .i64 0, .int .i64 0] 50)
 have hl : w.heap.size ≤ w.heap.size := Nat.le_refl _
 go_enter Tryz.func143, Tryz.ntmps143
 go_wp2_with fail
 refine (hD _).mono ?_
 rintro e w1 ⟨rfl, rfl⟩
 go_wp2_with fail
 refine (hK _).mono ?_
 rintro e w1 ⟨rfl, rfl⟩
 have hP2 : ∀ w, Calls Tryz.prog 91 #[.int .i64 ((i : Int) + 1 + q - i - 1)] w fun e w' => e = .returned (.int .i64 P) ∧ w = w' := by rw [show (i : Int) + 1 + q - i - 1 = q by omega]; exact hP
 have hQ2 : s.extract (i + 1) (i + 1 + q) = Q := by rw [← hk]; exact hQ
 go_wp2_with fail
 refine (hP2 _).mono ?_
 rintro e w1 ⟨rfl, rfl⟩
 clear hD hK hP hP2
 go_wp2_with fail
 refine wp_region_gr_tail 18 (by kernel_rfl) (by kernel_rfl) ?_
 simp only [List.take_succ_cons, List.take_zero, List.drop_succ_cons, List.drop_zero]
 repeat (go_big_quiet_step (first | (go_at_call 203; with_reducible exact gr_same (hA _)) | (go_at_call 203; with_reducible exact gr_same (hB _)) | (go_at_call 202; exact gr_call (hG _))))
 refine wpQuiet_nil ?_
 intro _ hw'; obtain ⟨w5, hw''⟩ := hw'; subst hw''
 have hBel := gr_below (w.alloc (.cells #[.int .i64 0, .int .i64 0] 50)) w5
 generalize gr (w.alloc (.cells #[.int .i64 0, .int .i64 0] 50)) w5 = w3 at *
 replace hb := hb.then_ hBel
 replace KR := KR.on hBel
 have q0 := KR.free 0
 have q1 := KR.free 1
 obtain ⟨r0, r1⟩ := KR.two
 have Kz : Known _ _ _ #[.int .i64 nN, .int .i64 nD] := (KR.put 0 (.int .i64 nN)).put 1 (.int .i64 nD)
 obtain ⟨z0, z1⟩ := Kz.two
 go_wp2_with fail
 exact bodyPost_ret (v := .tuple #[.agg #[.int .i64 nN, .int .i64 nD], .int .i64 nE]) (by simp [results, Tryz.results143, go_sem, z0, z1]) rfl ⟨rfl, (hb.setCell (p := ⟨w.heap.size, 0, none⟩) hl _).setCell (p := ⟨w.heap.size, 1, none⟩) hl _⟩
theorem parseR_p_b1 (s R : ByteArray) (w : World) (hs : s.size ≤ 400) (h0 : 0 < s.size) (hc : (s[0].toNat : Int) = 43) (hR : s.extract 1 s.size = R) (i : Nat) (hi : i < R.size) (hp : ¬ (R[i].toNat : Int) = 46)
  (hD : ∀ w, Calls Tryz.prog 201 #[.string R, .int .i64 0] w fun e w' => e = .returned (.int .i64 i) ∧ w = w') :
  Calls Tryz.prog 143 #[.string s] w fun e w' => e = .returned (.tuple #[.agg #[.int .i64 0, .int .i64 0], .int .i64 1]) ∧ Below w.heap.size w w' := by
 have hRs : R.size = s.size - 1 := by rw [← hR, ByteArray.size_extract]; omega
 have hp' : ((R[i].toNat : Int) == 46) = false := by simpa using hp
 have KR := Known.made w 50 #[.int .i64 0, .int .i64 0]
 have hb := below_new0 w (.cells #[.int .i64 0, .int .i64 0] 50)
 have hl : w.heap.size ≤ w.heap.size := Nat.le_refl _
 go_enter Tryz.func143, Tryz.ntmps143
 go_wp2_with fail
 refine (hD _).mono ?_
 rintro e w1 ⟨rfl, rfl⟩
 obtain ⟨r0, r1⟩ := KR.two
 go_wp2_with fail
 exact bodyPost_ret (v := .tuple #[.agg #[.int .i64 0, .int .i64 0], .int .i64 1]) (by simp [results, Tryz.results143, go_sem, r0, r1]) rfl ⟨rfl, hb⟩
theorem parseR_p_b2 (s R : ByteArray) (w : World) (hs : s.size ≤ 400) (h0 : 0 < s.size) (hc : (s[0].toNat : Int) = 43) (hR : s.extract 1 s.size = R) (h9 : 9 < R.size)
  (hD : ∀ w, Calls Tryz.prog 201 #[.string R, .int .i64 0] w fun e w' => e = .returned (.int .i64 R.size) ∧ w = w') :
  Calls Tryz.prog 143 #[.string s] w fun e w' => e = .returned (.tuple #[.agg #[.int .i64 0, .int .i64 0], .int .i64 1]) ∧ Below w.heap.size w w' := by
 have hRs : R.size = s.size - 1 := by rw [← hR, ByteArray.size_extract]; omega
 have KR := Known.made w 50 #[.int .i64 0, .int .i64 0]
 have hb := below_new0 w (.cells #[.int .i64 0, .int .i64 0] 50)
 have hl : w.heap.size ≤ w.heap.size := Nat.le_refl _
 go_enter Tryz.func143, Tryz.ntmps143
 go_wp2_with fail
 refine (hD _).mono ?_
 rintro e w1 ⟨rfl, rfl⟩
 obtain ⟨r0, r1⟩ := KR.two
 go_wp2_with fail
 exact bodyPost_ret (v := .tuple #[.agg #[.int .i64 0, .int .i64 0], .int .i64 1]) (by simp [results, Tryz.results143, go_sem, r0, r1]) rfl ⟨rfl, hb⟩
theorem parseR_p_b3 (s R : ByteArray) (w : World) (hs : s.size ≤ 400) (h0 : 0 < s.size) (hc : (s[0].toNat : Int) = 43) (hR : s.extract 1 s.size = R) (h9 : R.size = 0)
  (hD : ∀ w, Calls Tryz.prog 201 #[.string R, .int .i64 0] w fun e w' => e = .returned (.int .i64 R.size) ∧ w = w') :
  Calls Tryz.prog 143 #[.string s] w fun e w' => e = .returned (.tuple #[.agg #[.int .i64 0, .int .i64 0], .int .i64 1]) ∧ Below w.heap.size w w' := by
 have hRs : R.size = s.size - 1 := by rw [← hR, ByteArray.size_extract]; omega
 have KR := Known.made w 50 #[.int .i64 0, .int .i64 0]
 have hb := below_new0 w (.cells #[.int .i64 0, .int .i64 0] 50)
 have hl : w.heap.size ≤ w.heap.size := Nat.le_refl _
 go_enter Tryz.func143, Tryz.ntmps143
 go_wp2_with fail
 refine (hD _).mono ?_
 rintro e w1 ⟨rfl, rfl⟩
 obtain ⟨r0, r1⟩ := KR.two
 go_wp2_with fail
 exact bodyPost_ret (v := .tuple #[.agg #[.int .i64 0, .int .i64 0], .int .i64 1]) (by simp [results, Tryz.results143, go_sem, r0, r1]) rfl ⟨rfl, hb⟩
theorem parseR_p_b4 (s R : ByteArray) (w : World) (hs : s.size ≤ 400) (h0 : 0 < s.size) (hc : (s[0].toNat : Int) = 43) (hR : s.extract 1 s.size = R) (h9 : R.size ≤ 9) (h1 : 0 < R.size)
  (hD : ∀ w, Calls Tryz.prog 201 #[.string R, .int .i64 0] w fun e w' => e = .returned (.int .i64 R.size) ∧ w = w') (v : Int)
  (hV : ∀ w, Calls Tryz.prog 203 #[.string R] w fun e w' => e = .returned (.int .i64 v) ∧ w = w')
  (v0 : 0 ≤ v) (v1 : v ≤ 1000000000000000000) :
  Calls Tryz.prog 143 #[.string s] w fun e w' => e = .returned (.tuple #[.agg #[.int .i64 (Num.redN v 1), .int .i64 (Num.redD v 1)], .int .i64 (Num.redE v 1)]) ∧ Below w.heap.size w w' := by
 have e1 : ¬ R = ByteArray.empty := by intro h; have := congrArg ByteArray.size h; rw [show ByteArray.empty.size = 0 from rfl] at this; omega
 have e2 : decide (R = ByteArray.empty) = false := by rw [decide_eq_false_iff_not]; exact e1
 have e3 : (R.size == 0) = false := by simp; omega
 have e4 : ((R.size : Int) == 0) = false := by simp; omega
 have KR := Known.made w 50 #[.int .i64 0, .int .i64 0]
 have hb := below_new0 w (.cells #[.int .i64 0, .int .i64 0] 50)
 have hl : w.heap.size ≤ w.heap.size := Nat.le_refl _
 go_enter Tryz.func143, Tryz.ntmps143
 go_wp2_with fail
 refine (hD _).mono ?_
 rintro e w1 ⟨rfl, rfl⟩
 go_wp2_with fail
 refine (hV _).mono ?_
 rintro e w1 ⟨rfl, rfl⟩
 go_wp2_with fail
 refine (form_any v 1 _ (by omega) (by omega) (by omega) (by omega) (by omega)).mono ?_
 rintro e w5 ⟨rfl, hb5⟩
 replace hb := hb.then_ hb5
 replace KR := KR.on hb5
 have q0 := KR.free 0
 have q1 := KR.free 1
 obtain ⟨r0, r1⟩ := KR.two
 have Kz : Known _ _ _ #[.int .i64 (Num.redN v 1), .int .i64 (Num.redD v 1)] := (KR.put 0 (.int .i64 (Num.redN v 1))).put 1 (.int .i64 (Num.redD v 1))
 obtain ⟨z0, z1⟩ := Kz.two
 go_wp2_with fail
 exact bodyPost_ret (v := .tuple #[.agg #[.int .i64 (Num.redN v 1), .int .i64 (Num.redD v 1)], .int .i64 (Num.redE v 1)]) (by simp [results, Tryz.results143, go_sem, z0, z1]) rfl ⟨rfl, (hb.setCell (p := ⟨w.heap.size, 0, none⟩) hl _).setCell (p := ⟨w.heap.size, 1, none⟩) hl _⟩
theorem parseR_p_b5 (s R : ByteArray) (w : World) (hs : s.size ≤ 400) (h0 : 0 < s.size) (hc : (s[0].toNat : Int) = 43) (hR : s.extract 1 s.size = R) (i : Nat) (hi : i < R.size) (hp : (R[i].toNat : Int) = 46) (k : Nat) (hk : k < R.size)
  (hD : ∀ w, Calls Tryz.prog 201 #[.string R, .int .i64 0] w fun e w' => e = .returned (.int .i64 i) ∧ w = w')
  (hK : ∀ w, Calls Tryz.prog 201 #[.string R, .int .i64 ((i : Int) + 1)] w fun e w' => e = .returned (.int .i64 k) ∧ w = w') :
  Calls Tryz.prog 143 #[.string s] w fun e w' => e = .returned (.tuple #[.agg #[.int .i64 0, .int .i64 0], .int .i64 1]) ∧ Below w.heap.size w w' := by
 have hRs : R.size = s.size - 1 := by rw [← hR, ByteArray.size_extract]; omega
 have KR := Known.made w 50 #[.int .i64 0, .int .i64 0]
 have hb := below_new0 w (.cells #[.int .i64 0, .int .i64 0] 50)
 have hl : w.heap.size ≤ w.heap.size := Nat.le_refl _
 go_enter Tryz.func143, Tryz.ntmps143
 go_wp2_with fail
 refine (hD _).mono ?_
 rintro e w1 ⟨rfl, rfl⟩
 go_wp2_with fail
 refine (hK _).mono ?_
 rintro e w1 ⟨rfl, rfl⟩
 obtain ⟨r0, r1⟩ := KR.two
 go_wp2_with fail
 exact bodyPost_ret (v := .tuple #[.agg #[.int .i64 0, .int .i64 0], .int .i64 1]) (by simp [results, Tryz.results143, go_sem, r0, r1]) rfl ⟨rfl, hb⟩
theorem parseR_p_b6 (s R : ByteArray) (w : World) (hs : s.size ≤ 400) (h0 : 0 < s.size) (hc : (s[0].toNat : Int) = 43) (hR : s.extract 1 s.size = R) (i : Nat) (hi : i < R.size) (hp : (R[i].toNat : Int) = 46) (h9 : 9 < i)
  (hD : ∀ w, Calls Tryz.prog 201 #[.string R, .int .i64 0] w fun e w' => e = .returned (.int .i64 i) ∧ w = w')
  (hK : ∀ w, Calls Tryz.prog 201 #[.string R, .int .i64 ((i : Int) + 1)] w fun e w' => e = .returned (.int .i64 R.size) ∧ w = w') :
  Calls Tryz.prog 143 #[.string s] w fun e w' => e = .returned (.tuple #[.agg #[.int .i64 0, .int .i64 0], .int .i64 1]) ∧ Below w.heap.size w w' := by
 have hRs : R.size = s.size - 1 := by rw [← hR, ByteArray.size_extract]; omega
 have KR := Known.made w 50 #[.int .i64 0, .int .i64 0]
 have hb := below_new0 w (.cells #[.int .i64 0, .int .i64 0] 50)
 have hl : w.heap.size ≤ w.heap.size := Nat.le_refl _
 go_enter Tryz.func143, Tryz.ntmps143
 go_wp2_with fail
 refine (hD _).mono ?_
 rintro e w1 ⟨rfl, rfl⟩
 go_wp2_with fail
 refine (hK _).mono ?_
 rintro e w1 ⟨rfl, rfl⟩
 obtain ⟨r0, r1⟩ := KR.two
 go_wp2_with fail
 exact bodyPost_ret (v := .tuple #[.agg #[.int .i64 0, .int .i64 0], .int .i64 1]) (by simp [results, Tryz.results143, go_sem, r0, r1]) rfl ⟨rfl, hb⟩
theorem parseR_p_b7 (s R : ByteArray) (w : World) (hs : s.size ≤ 400) (h0 : 0 < s.size) (hc : (s[0].toNat : Int) = 43) (hR : s.extract 1 s.size = R) (i : Nat) (hi : i < R.size) (hp : (R[i].toNat : Int) = 46) (h9 : i ≤ 9) (hk : R.size = i + 1)
  (hD : ∀ w, Calls Tryz.prog 201 #[.string R, .int .i64 0] w fun e w' => e = .returned (.int .i64 i) ∧ w = w')
  (hK : ∀ w, Calls Tryz.prog 201 #[.string R, .int .i64 ((i : Int) + 1)] w fun e w' => e = .returned (.int .i64 R.size) ∧ w = w') :
  Calls Tryz.prog 143 #[.string s] w fun e w' => e = .returned (.tuple #[.agg #[.int .i64 0, .int .i64 0], .int .i64 1]) ∧ Below w.heap.size w w' := by
 have hRs : R.size = s.size - 1 := by rw [← hR, ByteArray.size_extract]; omega
 have KR := Known.made w 50 #[.int .i64 0, .int .i64 0]
 have hb := below_new0 w (.cells #[.int .i64 0, .int .i64 0] 50)
 have hl : w.heap.size ≤ w.heap.size := Nat.le_refl _
 go_enter Tryz.func143, Tryz.ntmps143
 go_wp2_with fail
 refine (hD _).mono ?_
 rintro e w1 ⟨rfl, rfl⟩
 go_wp2_with fail
 refine (hK _).mono ?_
 rintro e w1 ⟨rfl, rfl⟩
 obtain ⟨r0, r1⟩ := KR.two
 go_wp2_with fail
 exact bodyPost_ret (v := .tuple #[.agg #[.int .i64 0, .int .i64 0], .int .i64 1]) (by simp [results, Tryz.results143, go_sem, r0, r1]) rfl ⟨rfl, hb⟩
theorem parseR_p_b8 (s R : ByteArray) (w : World) (hs : s.size ≤ 400) (h0 : 0 < s.size) (hc : (s[0].toNat : Int) = 43) (hR : s.extract 1 s.size = R) (i : Nat) (hi : i < R.size) (hp : (R[i].toNat : Int) = 46) (h9 : i ≤ 9) (hk : i + 1 + 9 < R.size)
  (hD : ∀ w, Calls Tryz.prog 201 #[.string R, .int .i64 0] w fun e w' => e = .returned (.int .i64 i) ∧ w = w')
  (hK : ∀ w, Calls Tryz.prog 201 #[.string R, .int .i64 ((i : Int) + 1)] w fun e w' => e = .returned (.int .i64 R.size) ∧ w = w') :
  Calls Tryz.prog 143 #[.string s] w fun e w' => e = .returned (.tuple #[.agg #[.int .i64 0, .int .i64 0], .int .i64 1]) ∧ Below w.heap.size w w' := by
 have hRs : R.size = s.size - 1 := by rw [← hR, ByteArray.size_extract]; omega
 have KR := Known.made w 50 #[.int .i64 0, .int .i64 0]
 have hb := below_new0 w (.cells #[.int .i64 0, .int .i64 0] 50)
 have hl : w.heap.size ≤ w.heap.size := Nat.le_refl _
 go_enter Tryz.func143, Tryz.ntmps143
 go_wp2_with fail
 refine (hD _).mono ?_
 rintro e w1 ⟨rfl, rfl⟩
 go_wp2_with fail
 refine (hK _).mono ?_
 rintro e w1 ⟨rfl, rfl⟩
 obtain ⟨r0, r1⟩ := KR.two
 go_wp2_with fail
 exact bodyPost_ret (v := .tuple #[.agg #[.int .i64 0, .int .i64 0], .int .i64 1]) (by simp [results, Tryz.results143, go_sem, r0, r1]) rfl ⟨rfl, hb⟩
theorem parseR_p_b9 (s R : ByteArray) (w : World) (hs : s.size ≤ 400) (h0 : 0 < s.size) (hc : (s[0].toNat : Int) = 43) (hR : s.extract 1 s.size = R) (i : Nat) (hi : i < R.size) (hp : (R[i].toNat : Int) = 46) (h9 : i ≤ 9) (q : Nat) (hq1 : 0 < q) (hq9 : q ≤ 9) (hk : R.size = i + 1 + q)
  (hD : ∀ w, Calls Tryz.prog 201 #[.string R, .int .i64 0] w fun e w' => e = .returned (.int .i64 i) ∧ w = w')
  (hK : ∀ w, Calls Tryz.prog 201 #[.string R, .int .i64 ((i : Int) + 1)] w fun e w' => e = .returned (.int .i64 R.size) ∧ w = w') (a b P : Int) (W Q : ByteArray) (hW : R.extract 0 i = W) (hQ : R.extract (i + 1) R.size = Q)
  (hA : ∀ w, Calls Tryz.prog 203 #[.string W] w fun e w' => e = .returned (.int .i64 a) ∧ w = w')
  (hB : ∀ w, Calls Tryz.prog 203 #[.string Q] w fun e w' => e = .returned (.int .i64 b) ∧ w = w')
  (hP : ∀ w, Calls Tryz.prog 91 #[.int .i64 q] w fun e w' => e = .returned (.int .i64 P) ∧ w = w')
  (a0 : 0 ≤ a) (a1 : a ≤ 1000000000) (b0 : 0 ≤ b) (b1 : b ≤ 1000000000) (P0 : 1 ≤ P) (P1 : P ≤ 1000000000) :
  Calls Tryz.prog 143 #[.string s] w fun e w' => e = .returned (.tuple #[.agg #[.int .i64 (Num.redN (a * P + b) P), .int .i64 (Num.redD (a * P + b) P)], .int .i64 (Num.redE (a * P + b) P)]) ∧ Below w.heap.size w w' := by
 have hRs : R.size = s.size - 1 := by rw [← hR, ByteArray.size_extract]; omega
 have hab := mul_bd (x := a) (y := P) (by omega) a1 (by omega) P1
 have hab0 : 0 ≤ a * P := Int.mul_nonneg a0 (by omega)
 have e1 : ¬ R = ByteArray.empty := by intro h; have := congrArg ByteArray.size h; rw [show ByteArray.empty.size = 0 from rfl] at this; omega
 have e2 : decide (R = ByteArray.empty) = false := by rw [decide_eq_false_iff_not]; exact e1
 have e3 : (R.size == 0) = false := by simp; omega
 have e4 : ((R.size : Int) == 0) = false := by simp; omega
 have e5 : ((i : Int) + 1 + (q : Int) == 0) = false := by simp; omega
 have hG := fun w => form_any (a * P + b) P w (by omega) (by omega) (by omega) (by omega) (by omega)
 generalize Num.redN (a * P + b) P = nN at *
 generalize Num.redD (a * P + b) P = nD at *
 generalize Num.redE (a * P + b) P = nE at *
 have KR := Known.made w 50 #[.int .i64 0, .int .i64 0]
 have hb := below_new0 w (.cells #[.int .i64 0, .int .i64 0] 50)
 have hl : w.heap.size ≤ w.heap.size := Nat.le_refl _
 go_enter Tryz.func143, Tryz.ntmps143
 go_wp2_with fail
 refine (hD _).mono ?_
 rintro e w1 ⟨rfl, rfl⟩
 go_wp2_with fail
 refine (hK _).mono ?_
 rintro e w1 ⟨rfl, rfl⟩
 have hP2 : ∀ w, Calls Tryz.prog 91 #[.int .i64 ((i : Int) + 1 + q - i - 1)] w fun e w' => e = .returned (.int .i64 P) ∧ w = w' := by rw [show (i : Int) + 1 + q - i - 1 = q by omega]; exact hP
 have hQ2 : R.extract (i + 1) (i + 1 + q) = Q := by rw [← hk]; exact hQ
 go_wp2_with fail
 refine (hP2 _).mono ?_
 rintro e w1 ⟨rfl, rfl⟩
 clear hD hK hP hP2
 go_wp2_with fail
 refine wp_region_gr_tail 18 (by kernel_rfl) (by kernel_rfl) ?_
 simp only [List.take_succ_cons, List.take_zero, List.drop_succ_cons, List.drop_zero]
 repeat (go_big_quiet_step (first | (go_at_call 203; with_reducible exact gr_same (hA _)) | (go_at_call 203; with_reducible exact gr_same (hB _)) | (go_at_call 202; exact gr_call (hG _))))
 refine wpQuiet_nil ?_
 intro _ hw'; obtain ⟨w5, hw''⟩ := hw'; subst hw''
 have hBel := gr_below (w.alloc (.cells #[.int .i64 0, .int .i64 0] 50)) w5
 generalize gr (w.alloc (.cells #[.int .i64 0, .int .i64 0] 50)) w5 = w3 at *
 replace hb := hb.then_ hBel
 replace KR := KR.on hBel
 have q0 := KR.free 0
 have q1 := KR.free 1
 obtain ⟨r0, r1⟩ := KR.two
 have Kz : Known _ _ _ #[.int .i64 nN, .int .i64 nD] := (KR.put 0 (.int .i64 nN)).put 1 (.int .i64 nD)
 obtain ⟨z0, z1⟩ := Kz.two
 go_wp2_with fail
 exact bodyPost_ret (v := .tuple #[.agg #[.int .i64 nN, .int .i64 nD], .int .i64 nE]) (by simp [results, Tryz.results143, go_sem, z0, z1]) rfl ⟨rfl, (hb.setCell (p := ⟨w.heap.size, 0, none⟩) hl _).setCell (p := ⟨w.heap.size, 1, none⟩) hl _⟩
theorem parseR_m_b1 (s R : ByteArray) (w : World) (hs : s.size ≤ 400) (h0 : 0 < s.size) (hc : (s[0].toNat : Int) = 45) (hR : s.extract 1 s.size = R) (i : Nat) (hi : i < R.size) (hp : ¬ (R[i].toNat : Int) = 46)
  (hD : ∀ w, Calls Tryz.prog 201 #[.string R, .int .i64 0] w fun e w' => e = .returned (.int .i64 i) ∧ w = w') :
  Calls Tryz.prog 143 #[.string s] w fun e w' => e = .returned (.tuple #[.agg #[.int .i64 0, .int .i64 0], .int .i64 1]) ∧ Below w.heap.size w w' := by
 have hRs : R.size = s.size - 1 := by rw [← hR, ByteArray.size_extract]; omega
 have hp' : ((R[i].toNat : Int) == 46) = false := by simpa using hp
 have KR := Known.made w 50 #[.int .i64 0, .int .i64 0]
 have hb := below_new0 w (.cells #[.int .i64 0, .int .i64 0] 50)
 have hl : w.heap.size ≤ w.heap.size := Nat.le_refl _
 go_enter Tryz.func143, Tryz.ntmps143
 go_wp2_with fail
 refine (hD _).mono ?_
 rintro e w1 ⟨rfl, rfl⟩
 obtain ⟨r0, r1⟩ := KR.two
 go_wp2_with fail
 exact bodyPost_ret (v := .tuple #[.agg #[.int .i64 0, .int .i64 0], .int .i64 1]) (by simp [results, Tryz.results143, go_sem, r0, r1]) rfl ⟨rfl, hb⟩
theorem parseR_m_b2 (s R : ByteArray) (w : World) (hs : s.size ≤ 400) (h0 : 0 < s.size) (hc : (s[0].toNat : Int) = 45) (hR : s.extract 1 s.size = R) (h9 : 9 < R.size)
  (hD : ∀ w, Calls Tryz.prog 201 #[.string R, .int .i64 0] w fun e w' => e = .returned (.int .i64 R.size) ∧ w = w') :
  Calls Tryz.prog 143 #[.string s] w fun e w' => e = .returned (.tuple #[.agg #[.int .i64 0, .int .i64 0], .int .i64 1]) ∧ Below w.heap.size w w' := by
 have hRs : R.size = s.size - 1 := by rw [← hR, ByteArray.size_extract]; omega
 have KR := Known.made w 50 #[.int .i64 0, .int .i64 0]
 have hb := below_new0 w (.cells #[.int .i64 0, .int .i64 0] 50)
 have hl : w.heap.size ≤ w.heap.size := Nat.le_refl _
 go_enter Tryz.func143, Tryz.ntmps143
 go_wp2_with fail
 refine (hD _).mono ?_
 rintro e w1 ⟨rfl, rfl⟩
 obtain ⟨r0, r1⟩ := KR.two
 go_wp2_with fail
 exact bodyPost_ret (v := .tuple #[.agg #[.int .i64 0, .int .i64 0], .int .i64 1]) (by simp [results, Tryz.results143, go_sem, r0, r1]) rfl ⟨rfl, hb⟩
theorem parseR_m_b3 (s R : ByteArray) (w : World) (hs : s.size ≤ 400) (h0 : 0 < s.size) (hc : (s[0].toNat : Int) = 45) (hR : s.extract 1 s.size = R) (h9 : R.size = 0)
  (hD : ∀ w, Calls Tryz.prog 201 #[.string R, .int .i64 0] w fun e w' => e = .returned (.int .i64 R.size) ∧ w = w') :
  Calls Tryz.prog 143 #[.string s] w fun e w' => e = .returned (.tuple #[.agg #[.int .i64 0, .int .i64 0], .int .i64 1]) ∧ Below w.heap.size w w' := by
 have hRs : R.size = s.size - 1 := by rw [← hR, ByteArray.size_extract]; omega
 have KR := Known.made w 50 #[.int .i64 0, .int .i64 0]
 have hb := below_new0 w (.cells #[.int .i64 0, .int .i64 0] 50)
 have hl : w.heap.size ≤ w.heap.size := Nat.le_refl _
 go_enter Tryz.func143, Tryz.ntmps143
 go_wp2_with fail
 refine (hD _).mono ?_
 rintro e w1 ⟨rfl, rfl⟩
 obtain ⟨r0, r1⟩ := KR.two
 go_wp2_with fail
 exact bodyPost_ret (v := .tuple #[.agg #[.int .i64 0, .int .i64 0], .int .i64 1]) (by simp [results, Tryz.results143, go_sem, r0, r1]) rfl ⟨rfl, hb⟩
theorem parseR_m_b4 (s R : ByteArray) (w : World) (hs : s.size ≤ 400) (h0 : 0 < s.size) (hc : (s[0].toNat : Int) = 45) (hR : s.extract 1 s.size = R) (h9 : R.size ≤ 9) (h1 : 0 < R.size)
  (hD : ∀ w, Calls Tryz.prog 201 #[.string R, .int .i64 0] w fun e w' => e = .returned (.int .i64 R.size) ∧ w = w') (v : Int)
  (hV : ∀ w, Calls Tryz.prog 203 #[.string R] w fun e w' => e = .returned (.int .i64 v) ∧ w = w')
  (v0 : 0 ≤ v) (v1 : v ≤ 1000000000000000000) :
  Calls Tryz.prog 143 #[.string s] w fun e w' => e = .returned (.tuple #[.agg #[.int .i64 (Num.redN (-v) 1), .int .i64 (Num.redD (-v) 1)], .int .i64 (Num.redE (-v) 1)]) ∧ Below w.heap.size w w' := by
 have e1 : ¬ R = ByteArray.empty := by intro h; have := congrArg ByteArray.size h; rw [show ByteArray.empty.size = 0 from rfl] at this; omega
 have e2 : decide (R = ByteArray.empty) = false := by rw [decide_eq_false_iff_not]; exact e1
 have e3 : (R.size == 0) = false := by simp; omega
 have e4 : ((R.size : Int) == 0) = false := by simp; omega
 have KR := Known.made w 50 #[.int .i64 0, .int .i64 0]
 have hb := below_new0 w (.cells #[.int .i64 0, .int .i64 0] 50)
 have hl : w.heap.size ≤ w.heap.size := Nat.le_refl _
 go_enter Tryz.func143, Tryz.ntmps143
 go_wp2_with fail
 refine (hD _).mono ?_
 rintro e w1 ⟨rfl, rfl⟩
 go_wp2_with fail
 refine (hV _).mono ?_
 rintro e w1 ⟨rfl, rfl⟩
 go_wp2_with fail
 refine (form_any (-v) 1 _ (by omega) (by omega) (by omega) (by omega) (by omega)).mono ?_
 rintro e w5 ⟨rfl, hb5⟩
 replace hb := hb.then_ hb5
 replace KR := KR.on hb5
 have q0 := KR.free 0
 have q1 := KR.free 1
 obtain ⟨r0, r1⟩ := KR.two
 have Kz : Known _ _ _ #[.int .i64 (Num.redN (-v) 1), .int .i64 (Num.redD (-v) 1)] := (KR.put 0 (.int .i64 (Num.redN (-v) 1))).put 1 (.int .i64 (Num.redD (-v) 1))
 obtain ⟨z0, z1⟩ := Kz.two
 go_wp2_with fail
 exact bodyPost_ret (v := .tuple #[.agg #[.int .i64 (Num.redN (-v) 1), .int .i64 (Num.redD (-v) 1)], .int .i64 (Num.redE (-v) 1)]) (by simp [results, Tryz.results143, go_sem, z0, z1]) rfl ⟨rfl, (hb.setCell (p := ⟨w.heap.size, 0, none⟩) hl _).setCell (p := ⟨w.heap.size, 1, none⟩) hl _⟩
theorem parseR_m_b5 (s R : ByteArray) (w : World) (hs : s.size ≤ 400) (h0 : 0 < s.size) (hc : (s[0].toNat : Int) = 45) (hR : s.extract 1 s.size = R) (i : Nat) (hi : i < R.size) (hp : (R[i].toNat : Int) = 46) (k : Nat) (hk : k < R.size)
  (hD : ∀ w, Calls Tryz.prog 201 #[.string R, .int .i64 0] w fun e w' => e = .returned (.int .i64 i) ∧ w = w')
  (hK : ∀ w, Calls Tryz.prog 201 #[.string R, .int .i64 ((i : Int) + 1)] w fun e w' => e = .returned (.int .i64 k) ∧ w = w') :
  Calls Tryz.prog 143 #[.string s] w fun e w' => e = .returned (.tuple #[.agg #[.int .i64 0, .int .i64 0], .int .i64 1]) ∧ Below w.heap.size w w' := by
 have hRs : R.size = s.size - 1 := by rw [← hR, ByteArray.size_extract]; omega
 have KR := Known.made w 50 #[.int .i64 0, .int .i64 0]
 have hb := below_new0 w (.cells #[.int .i64 0, .int .i64 0] 50)
 have hl : w.heap.size ≤ w.heap.size := Nat.le_refl _
 go_enter Tryz.func143, Tryz.ntmps143
 go_wp2_with fail
 refine (hD _).mono ?_
 rintro e w1 ⟨rfl, rfl⟩
 go_wp2_with fail
 refine (hK _).mono ?_
 rintro e w1 ⟨rfl, rfl⟩
 obtain ⟨r0, r1⟩ := KR.two
 go_wp2_with fail
 exact bodyPost_ret (v := .tuple #[.agg #[.int .i64 0, .int .i64 0], .int .i64 1]) (by simp [results, Tryz.results143, go_sem, r0, r1]) rfl ⟨rfl, hb⟩
theorem parseR_m_b6 (s R : ByteArray) (w : World) (hs : s.size ≤ 400) (h0 : 0 < s.size) (hc : (s[0].toNat : Int) = 45) (hR : s.extract 1 s.size = R) (i : Nat) (hi : i < R.size) (hp : (R[i].toNat : Int) = 46) (h9 : 9 < i)
  (hD : ∀ w, Calls Tryz.prog 201 #[.string R, .int .i64 0] w fun e w' => e = .returned (.int .i64 i) ∧ w = w')
  (hK : ∀ w, Calls Tryz.prog 201 #[.string R, .int .i64 ((i : Int) + 1)] w fun e w' => e = .returned (.int .i64 R.size) ∧ w = w') :
  Calls Tryz.prog 143 #[.string s] w fun e w' => e = .returned (.tuple #[.agg #[.int .i64 0, .int .i64 0], .int .i64 1]) ∧ Below w.heap.size w w' := by
 have hRs : R.size = s.size - 1 := by rw [← hR, ByteArray.size_extract]; omega
 have KR := Known.made w 50 #[.int .i64 0, .int .i64 0]
 have hb := below_new0 w (.cells #[.int .i64 0, .int .i64 0] 50)
 have hl : w.heap.size ≤ w.heap.size := Nat.le_refl _
 go_enter Tryz.func143, Tryz.ntmps143
 go_wp2_with fail
 refine (hD _).mono ?_
 rintro e w1 ⟨rfl, rfl⟩
 go_wp2_with fail
 refine (hK _).mono ?_
 rintro e w1 ⟨rfl, rfl⟩
 obtain ⟨r0, r1⟩ := KR.two
 go_wp2_with fail
 exact bodyPost_ret (v := .tuple #[.agg #[.int .i64 0, .int .i64 0], .int .i64 1]) (by simp [results, Tryz.results143, go_sem, r0, r1]) rfl ⟨rfl, hb⟩
theorem parseR_m_b7 (s R : ByteArray) (w : World) (hs : s.size ≤ 400) (h0 : 0 < s.size) (hc : (s[0].toNat : Int) = 45) (hR : s.extract 1 s.size = R) (i : Nat) (hi : i < R.size) (hp : (R[i].toNat : Int) = 46) (h9 : i ≤ 9) (hk : R.size = i + 1)
  (hD : ∀ w, Calls Tryz.prog 201 #[.string R, .int .i64 0] w fun e w' => e = .returned (.int .i64 i) ∧ w = w')
  (hK : ∀ w, Calls Tryz.prog 201 #[.string R, .int .i64 ((i : Int) + 1)] w fun e w' => e = .returned (.int .i64 R.size) ∧ w = w') :
  Calls Tryz.prog 143 #[.string s] w fun e w' => e = .returned (.tuple #[.agg #[.int .i64 0, .int .i64 0], .int .i64 1]) ∧ Below w.heap.size w w' := by
 have hRs : R.size = s.size - 1 := by rw [← hR, ByteArray.size_extract]; omega
 have KR := Known.made w 50 #[.int .i64 0, .int .i64 0]
 have hb := below_new0 w (.cells #[.int .i64 0, .int .i64 0] 50)
 have hl : w.heap.size ≤ w.heap.size := Nat.le_refl _
 go_enter Tryz.func143, Tryz.ntmps143
 go_wp2_with fail
 refine (hD _).mono ?_
 rintro e w1 ⟨rfl, rfl⟩
 go_wp2_with fail
 refine (hK _).mono ?_
 rintro e w1 ⟨rfl, rfl⟩
 obtain ⟨r0, r1⟩ := KR.two
 go_wp2_with fail
 exact bodyPost_ret (v := .tuple #[.agg #[.int .i64 0, .int .i64 0], .int .i64 1]) (by simp [results, Tryz.results143, go_sem, r0, r1]) rfl ⟨rfl, hb⟩
theorem parseR_m_b8 (s R : ByteArray) (w : World) (hs : s.size ≤ 400) (h0 : 0 < s.size) (hc : (s[0].toNat : Int) = 45) (hR : s.extract 1 s.size = R) (i : Nat) (hi : i < R.size) (hp : (R[i].toNat : Int) = 46) (h9 : i ≤ 9) (hk : i + 1 + 9 < R.size)
  (hD : ∀ w, Calls Tryz.prog 201 #[.string R, .int .i64 0] w fun e w' => e = .returned (.int .i64 i) ∧ w = w')
  (hK : ∀ w, Calls Tryz.prog 201 #[.string R, .int .i64 ((i : Int) + 1)] w fun e w' => e = .returned (.int .i64 R.size) ∧ w = w') :
  Calls Tryz.prog 143 #[.string s] w fun e w' => e = .returned (.tuple #[.agg #[.int .i64 0, .int .i64 0], .int .i64 1]) ∧ Below w.heap.size w w' := by
 have hRs : R.size = s.size - 1 := by rw [← hR, ByteArray.size_extract]; omega
 have KR := Known.made w 50 #[.int .i64 0, .int .i64 0]
 have hb := below_new0 w (.cells #[.int .i64 0, .int .i64 0] 50)
 have hl : w.heap.size ≤ w.heap.size := Nat.le_refl _
 go_enter Tryz.func143, Tryz.ntmps143
 go_wp2_with fail
 refine (hD _).mono ?_
 rintro e w1 ⟨rfl, rfl⟩
 go_wp2_with fail
 refine (hK _).mono ?_
 rintro e w1 ⟨rfl, rfl⟩
 obtain ⟨r0, r1⟩ := KR.two
 go_wp2_with fail
 exact bodyPost_ret (v := .tuple #[.agg #[.int .i64 0, .int .i64 0], .int .i64 1]) (by simp [results, Tryz.results143, go_sem, r0, r1]) rfl ⟨rfl, hb⟩
theorem parseR_m_b9 (s R : ByteArray) (w : World) (hs : s.size ≤ 400) (h0 : 0 < s.size) (hc : (s[0].toNat : Int) = 45) (hR : s.extract 1 s.size = R) (i : Nat) (hi : i < R.size) (hp : (R[i].toNat : Int) = 46) (h9 : i ≤ 9) (q : Nat) (hq1 : 0 < q) (hq9 : q ≤ 9) (hk : R.size = i + 1 + q)
  (hD : ∀ w, Calls Tryz.prog 201 #[.string R, .int .i64 0] w fun e w' => e = .returned (.int .i64 i) ∧ w = w')
  (hK : ∀ w, Calls Tryz.prog 201 #[.string R, .int .i64 ((i : Int) + 1)] w fun e w' => e = .returned (.int .i64 R.size) ∧ w = w') (a b P : Int) (W Q : ByteArray) (hW : R.extract 0 i = W) (hQ : R.extract (i + 1) R.size = Q)
  (hA : ∀ w, Calls Tryz.prog 203 #[.string W] w fun e w' => e = .returned (.int .i64 a) ∧ w = w')
  (hB : ∀ w, Calls Tryz.prog 203 #[.string Q] w fun e w' => e = .returned (.int .i64 b) ∧ w = w')
  (hP : ∀ w, Calls Tryz.prog 91 #[.int .i64 q] w fun e w' => e = .returned (.int .i64 P) ∧ w = w')
  (a0 : 0 ≤ a) (a1 : a ≤ 1000000000) (b0 : 0 ≤ b) (b1 : b ≤ 1000000000) (P0 : 1 ≤ P) (P1 : P ≤ 1000000000) :
  Calls Tryz.prog 143 #[.string s] w fun e w' => e = .returned (.tuple #[.agg #[.int .i64 (Num.redN (-(a * P + b)) P), .int .i64 (Num.redD (-(a * P + b)) P)], .int .i64 (Num.redE (-(a * P + b)) P)]) ∧ Below w.heap.size w w' := by
 have hRs : R.size = s.size - 1 := by rw [← hR, ByteArray.size_extract]; omega
 have hab := mul_bd (x := a) (y := P) (by omega) a1 (by omega) P1
 have hab0 : 0 ≤ a * P := Int.mul_nonneg a0 (by omega)
 have e1 : ¬ R = ByteArray.empty := by intro h; have := congrArg ByteArray.size h; rw [show ByteArray.empty.size = 0 from rfl] at this; omega
 have e2 : decide (R = ByteArray.empty) = false := by rw [decide_eq_false_iff_not]; exact e1
 have e3 : (R.size == 0) = false := by simp; omega
 have e4 : ((R.size : Int) == 0) = false := by simp; omega
 have e5 : ((i : Int) + 1 + (q : Int) == 0) = false := by simp; omega
 have hG := fun w => form_any (-(a * P + b)) P w (by omega) (by omega) (by omega) (by omega) (by omega)
 generalize Num.redN (-(a * P + b)) P = nN at *
 generalize Num.redD (-(a * P + b)) P = nD at *
 generalize Num.redE (-(a * P + b)) P = nE at *
 have KR := Known.made w 50 #[.int .i64 0, .int .i64 0]
 have hb := below_new0 w (.cells #[.int .i64 0, .int .i64 0] 50)
 have hl : w.heap.size ≤ w.heap.size := Nat.le_refl _
 go_enter Tryz.func143, Tryz.ntmps143
 go_wp2_with fail
 refine (hD _).mono ?_
 rintro e w1 ⟨rfl, rfl⟩
 go_wp2_with fail
 refine (hK _).mono ?_
 rintro e w1 ⟨rfl, rfl⟩
 have hP2 : ∀ w, Calls Tryz.prog 91 #[.int .i64 ((i : Int) + 1 + q - i - 1)] w fun e w' => e = .returned (.int .i64 P) ∧ w = w' := by rw [show (i : Int) + 1 + q - i - 1 = q by omega]; exact hP
 have hQ2 : R.extract (i + 1) (i + 1 + q) = Q := by rw [← hk]; exact hQ
 go_wp2_with fail
 refine (hP2 _).mono ?_
 rintro e w1 ⟨rfl, rfl⟩
 clear hD hK hP hP2
 go_wp2_with fail
 refine wp_region_gr_tail 18 (by kernel_rfl) (by kernel_rfl) ?_
 simp only [List.take_succ_cons, List.take_zero, List.drop_succ_cons, List.drop_zero]
 repeat (go_big_quiet_step (first | (go_at_call 203; with_reducible exact gr_same (hA _)) | (go_at_call 203; with_reducible exact gr_same (hB _)) | (go_at_call 202; exact gr_call (hG _))))
 refine wpQuiet_nil ?_
 intro _ hw'; obtain ⟨w5, hw''⟩ := hw'; subst hw''
 have hBel := gr_below (w.alloc (.cells #[.int .i64 0, .int .i64 0] 50)) w5
 generalize gr (w.alloc (.cells #[.int .i64 0, .int .i64 0] 50)) w5 = w3 at *
 replace hb := hb.then_ hBel
 replace KR := KR.on hBel
 have q0 := KR.free 0
 have q1 := KR.free 1
 obtain ⟨r0, r1⟩ := KR.two
 have Kz : Known _ _ _ #[.int .i64 nN, .int .i64 nD] := (KR.put 0 (.int .i64 nN)).put 1 (.int .i64 nD)
 obtain ⟨z0, z1⟩ := Kz.two
 go_wp2_with fail
 exact bodyPost_ret (v := .tuple #[.agg #[.int .i64 nN, .int .i64 nD], .int .i64 nE]) (by simp [results, Tryz.results143, go_sem, z0, z1]) rfl ⟨rfl, (hb.setCell (p := ⟨w.heap.size, 0, none⟩) hl _).setCell (p := ⟨w.heap.size, 1, none⟩) hl _⟩
theorem ext_list6 (s : ByteArray) (i j : Nat) : (s.extract i j).data.toList = (s.data.toList.take j).drop i := by
 rw [ByteArray.data_extract, Array.toList_extract, List.extract_eq_take_drop]
 rw [List.drop_take]
theorem list_len (s : ByteArray) : s.data.toList.length = s.size := by simp
theorem endD_all {s : ByteArray} (h : Num.endD s 0 = s.size) : ∀ c ∈ s.data.toList, Num.isD c = true := by
 unfold Num.endD at h
 rw [List.drop_zero] at h
 exact Num.all_lead (by rw [list_len]; omega)
theorem byte_ne {c : UInt8} (h : c ≠ 46) : ¬ (c.toNat : Int) = 46 := by
 intro h'
 exact h (UInt8.toNat_inj.1 (show c.toNat = (46 : UInt8).toNat by have : (46 : UInt8).toNat = 46 := rfl; omega))
inductive Reads (R : ByteArray) : Option (Nat × Nat) → Prop
 | a1 (h : Lib.indexByte R.data.toList 46 = -1) (hd : Num.endD R 0 < R.size) (hn : ¬ ((R[Num.endD R 0]'hd).toNat : Int) = 46) : Reads R none
 | a2 (h : Lib.indexByte R.data.toList 46 = -1) (hd : Num.endD R 0 = R.size) (h9 : 9 < R.size) : Reads R none
 | a3 (h : Lib.indexByte R.data.toList 46 = -1) (h0 : R.size = 0) : Reads R none
 | a4 (h : Lib.indexByte R.data.toList 46 = -1) (hd : Num.endD R 0 = R.size) (h9 : R.size ≤ 9) (h1 : 0 < R.size) : Reads R (some (Num.value 0 R.data.toList, 0))
 | d1 (p : Nat) (h : Lib.indexByte R.data.toList 46 = p) (hp : p < R.size) (hc : (R[p].toNat : Int) = 46) (he : Num.endD R 0 < p) (hw : Num.endD (R.extract 0 p) 0 < p) (hn : ¬ ((R[Num.endD R 0]'(by omega)).toNat : Int) = 46) : Reads R none
 | d2 (p : Nat) (h : Lib.indexByte R.data.toList 46 = p) (hp : p < R.size) (hc : (R[p].toNat : Int) = 46) (he : Num.endD R 0 = p) (hw : Num.endD (R.extract 0 p) 0 = p) (k : Nat) (hk : Num.endD R (p + 1) = k)
   (hq : k = p + 1 + Num.endD (R.extract (p + 1) R.size) 0) (bad : k < R.size ∨ 9 < p ∨ R.size = p + 1 ∨ p + 1 + 9 < R.size) : Reads R none
 | d3 (p : Nat) (h : Lib.indexByte R.data.toList 46 = p) (hp : p < R.size) (hc : (R[p].toNat : Int) = 46) (he : Num.endD R 0 = p) (hw : Num.endD (R.extract 0 p) 0 = p) (hk : Num.endD R (p + 1) = R.size)
   (hq : R.size = p + 1 + Num.endD (R.extract (p + 1) R.size) 0) (h9 : p ≤ 9) (q : Nat) (hz : R.size = p + 1 + q) (q1 : 0 < q) (q9 : q ≤ 9) : Reads R (some (Num.value 0 ((R.extract 0 p).data.toList ++ (R.extract (p + 1) R.size).data.toList), q))
theorem reads_any (R : ByteArray) : ∃ o, Reads R o := by
 have hl := list_len R
 have hle := Num.endD_le R 0 (by omega)
 rcases index_cases R.data.toList with ⟨h, hno⟩ | ⟨p, hp, h, hc, hno⟩
 ·by_cases hd : Num.endD R 0 < R.size
  ·exact ⟨_, .a1 h hd (by rw [Num.at_list R _ hd]; exact byte_ne (hno _ (List.getElem_mem _)))⟩
  by_cases h0 : R.size = 0
  ·exact ⟨_, .a3 h h0⟩
  by_cases h9 : 9 < R.size
  ·exact ⟨_, .a2 h (by omega) h9⟩
  ·exact ⟨_, .a4 h (by omega) (by omega) (by omega)⟩
 ·have hp' : p < R.size := by omega
  have hc' : (R[p].toNat : Int) = 46 := by rw [Num.at_list R p hp', hc]; rfl
  have eW : (R.extract 0 p).data.toList = R.data.toList.take p := by rw [ext_list6, List.drop_zero]
  have eQ : (R.extract (p + 1) R.size).data.toList = R.data.toList.drop (p + 1) := by rw [ext_list6, List.take_of_length_le (by omega)]
  have hep : Num.endD R 0 ≤ p := by
   rcases Nat.lt_or_ge p (Num.endD R 0) with h' | h'
   ·obtain ⟨_, h1, h2⟩ := Num.endD_in R 0 p (by omega) h'
    omega
   ·exact h'
  have sp : R.data.toList = R.data.toList.take p ++ R.data.toList.drop p := (List.take_append_drop p _).symm
  have hlt : (R.data.toList.take p).length = p := by rw [List.length_take]; omega
  have lW : Num.endD (R.extract 0 p) 0 = Num.endD R 0 := by
   unfold Num.endD
   rw [List.drop_zero, List.drop_zero, eW]
   by_cases hall : Num.lead (R.data.toList.take p) = p
   ·have h1 : ∀ c ∈ R.data.toList.take p, Num.isD c = true := Num.all_lead (by rw [hlt]; exact hall)
    have h2 : Num.lead (R.data.toList.drop p) = 0 := by
     rw [List.drop_eq_getElem_cons hp, hc]
     rfl
    have h3 : Num.lead R.data.toList = p := by
     rw [sp, Num.lead_app h1, hlt, h2, Nat.add_zero]
    omega
   ·have hlt2 : Num.lead (R.data.toList.take p) < (R.data.toList.take p).length := by
     have := Num.lead_le (R.data.toList.take p)
     omega
    have h1 := Num.lead_end _ hlt2
    have h2 := Num.lead_in (R.data.toList.take p)
    have key : Num.lead R.data.toList = Num.lead (R.data.toList.take p) := by
     have g1 : R.data.toList.take (Num.lead (R.data.toList.take p)) = (R.data.toList.take p).take (Num.lead (R.data.toList.take p)) := by
      rw [List.take_take]; congr 1; omega
     have g2 : ∀ c ∈ R.data.toList.take (Num.lead (R.data.toList.take p)), Num.isD c = true := by
      rw [g1]
      intro c hcm
      obtain ⟨j, hj, rfl⟩ := List.mem_iff_getElem.1 hcm
      rw [List.getElem_take]
      exact (h2 j (by rw [List.length_take] at hj; omega)).2
     have g3 : R.data.toList.drop (Num.lead (R.data.toList.take p)) = R.data.toList[Num.lead (R.data.toList.take p)]'(by omega) :: R.data.toList.drop (Num.lead (R.data.toList.take p) + 1) := List.drop_eq_getElem_cons (by omega)
     have g4 : Num.isD (R.data.toList[Num.lead (R.data.toList.take p)]'(by omega)) = false := by
      rw [List.getElem_take] at h1
      exact h1
     have g5 : Num.lead (R.data.toList.drop (Num.lead (R.data.toList.take p))) = 0 := by
      rw [g3, Num.lead, if_neg (by rw [g4]; simp)]
     conv => lhs; rw [← List.take_append_drop (Num.lead (R.data.toList.take p)) R.data.toList]
     rw [Num.lead_app g2, g5, List.length_take]
     omega
    omega
  have lQ : Num.endD R (p + 1) = p + 1 + Num.endD (R.extract (p + 1) R.size) 0 := by
   unfold Num.endD
   rw [List.drop_zero, eQ]
   omega
  have lk := Num.endD_le R (p + 1) (by omega)
  by_cases he : Num.endD R 0 < p
  ·refine ⟨_, .d1 p h hp' hc' he (by rw [lW]; exact he) ?_⟩
   have hh : Num.endD R 0 < R.size := by omega
   rw [Num.at_list R _ hh]
   refine byte_ne (hno _ ?_)
   rw [List.mem_take_iff_getElem]
   exact ⟨Num.endD R 0, by omega, rfl⟩
  have he' : Num.endD R 0 = p := by omega
  by_cases bad : Num.endD R (p + 1) < R.size ∨ 9 < p ∨ R.size = p + 1 ∨ p + 1 + 9 < R.size
  ·exact ⟨_, .d2 p h hp' hc' he' (by rw [lW]; exact he') _ rfl lQ bad⟩
  ·exact ⟨_, .d3 p h hp' hc' he' (by rw [lW]; exact he') (by omega) (by omega) (by omega) (R.size - (p + 1)) (by omega) (by omega) (by omega)⟩
def resV (neg : Bool) : Option (Nat × Nat) → Int × Int × Int
 | none => (0, 0, 1)
 | some (v, q) => Num.red (if neg = true then -(v : Int) else v) (10 ^ q)
theorem pre_zero (l : List UInt8) (W Q : ByteArray) (h : W.data.toList ++ Q.data.toList = l) : (⟨#[48]⟩ : ByteArray) ++ W ++ Q = ⟨(48 :: l).toArray⟩ := by
 apply ByteArray.ext
 rw [ByteArray.data_append, ByteArray.data_append]
 apply Array.toList_inj.1
 rw [Array.toList_append, Array.toList_append, List.append_assoc, h]
 rfl
theorem W_size (R : ByteArray) (p : Nat) (h : p < R.size) : (R.extract 0 p).size = p := by rw [ByteArray.size_extract]; omega
theorem Q_size (R : ByteArray) (p : Nat) : (R.extract (p + 1) R.size).size = R.size - (p + 1) := by rw [ByteArray.size_extract]; omega
theorem parse_n (s : ByteArray) (hs : s.size ≤ 400) (h0 : 0 < s.size) (hc : ¬ (s[0].toNat : Int) = 43) (hd : ¬ (s[0].toNat : Int) = 45) (o : Option (Nat × Nat)) (hr : Reads s o) :
  Ret 112 #[.string s] (resV false o) ∧ Ret 143 #[.string s] (resV false o) := by
 have hX : s.size ≤ 400 := hs
 have hD : ∀ w, Calls Tryz.prog 201 #[.string s, .int .i64 0] w fun e w' => e = .returned (.int .i64 (Num.endD s 0)) ∧ w = w' := fun w => digitsR s 0 w (by omega) (by omega)
 cases hr with
 | a1 h hd0 hn => exact ⟨fun w => parseP_n_a1 s s ⟨#[]⟩ w hs hX (by decide) h0 hc hd _ hd0 false (fun w => cut_no _ w h) (fun w => digitsP _ w (by omega)), fun w => parseR_n_b1 s w hs h0 hc hd _ hd0 hn hD⟩
 | a2 h hd0 h9 => exact ⟨fun w => parseP_n_a2 s s ⟨#[]⟩ w hs hX (by decide) h0 hc hd h9 false (fun w => cut_no _ w h) (fun w => hd0 ▸ digitsP _ w (by omega)), fun w => parseR_n_b2 s w hs h0 hc hd h9 (fun w => hd0 ▸ hD w)⟩
 | a3 h hz => exact absurd hz (by omega)
 | a4 h hd0 h9 h1 =>
   have hall := endD_all hd0
   have hA : ∀ w, Calls Tryz.prog 66 #[.string (⟨#[48]⟩ ++ s ++ ⟨#[]⟩)] w fun e w' => e = .returned (.tuple #[.int .i64 (Num.value 0 s.data.toList), .nilIface]) ∧ Below w.heap.size w w' := by
    intro w
    rw [pre_zero s.data.toList s ⟨#[]⟩ (by simp)]
    exact atoi_any _ w hall (by rw [list_len]; omega)
   have hv := Num.value_lt hall 0
   have hp : 10 ^ s.data.toList.length ≤ 10 ^ 9 := Nat.pow_le_pow_right (by omega) (by rw [list_len]; exact h9)
   exact ⟨fun w => parseP_n_a4 s s ⟨#[]⟩ w hs hX (by decide) h0 hc hd h9 h1 (by decide) (fun w => cut_no _ w h) (fun w => hd0 ▸ digitsP _ w (by omega)) ((Num.value 0 s.data.toList : Nat) : Int) 1 hA (fun w => power_any 0 w (by omega)) (by omega) (by omega) (by omega) (by omega),
    fun w => parseR_n_b4 s w hs h0 hc hd h9 h1 (fun w => hd0 ▸ hD w) ((Num.value 0 s.data.toList : Nat) : Int) (fun w => valueR _ w (by omega) hall) (by omega) (by omega)⟩
 | d1 p h hp hc1 he hw hn =>
   have z1 := W_size s p hp
   have z2 := Q_size s p
   exact ⟨fun w => parseP_n_a1 s (s.extract 0 p) (s.extract (p + 1) s.size) w hs (by omega) (by omega) h0 hc hd _ (by rw [z1]; exact hw) true (fun w => cut_at _ p w h hp (by omega)) (fun w => digitsP _ w (by omega)), fun w => parseR_n_b1 s w hs h0 hc hd _ (by omega) hn hD⟩
 | d2 p h hp hc1 he hw k hk hq bad =>
   have z1 := W_size s p hp
   have z2 := Q_size s p
   have hcut := fun w => cut_at s p w h hp (by omega)
   have hW : ∀ w, Calls Tryz.prog 170 #[.string (s.extract 0 p)] w fun e w' => e = .returned (.int .i64 (s.extract 0 p).size) ∧ w = w' := fun w => by
    have := digitsP (s.extract 0 p) w (by omega)
    rw [hw] at this
    rw [z1]
    exact this
   have hQ := fun w => digitsP (s.extract (p + 1) s.size) w (by omega)
   have hK : ∀ w, Calls Tryz.prog 201 #[.string s, .int .i64 ((p : Int) + 1)] w fun e w' => e = .returned (.int .i64 k) ∧ w = w' := fun w => hk ▸ digitsR s (p + 1) w (by omega) (by omega)
   have hle := Num.endD_le (s.extract (p + 1) s.size) 0 (by omega)
   rw [he] at hD
   constructor
   ·intro w
    by_cases g9 : 9 < p
    ·exact parseP_n_a2 s _ _ w hs (by omega) (by omega) h0 hc hd (by rw [z1]; exact g9) true hcut hW
    by_cases g0 : s.size = p + 1
    ·exact parseP_n_a7 s _ _ w hs (by omega) (by omega) h0 hc hd (by omega) (by omega) hcut hW
    by_cases gk : k < s.size
    ·exact parseP_n_a8 s _ _ w hs (by omega) (by omega) h0 hc hd (by omega) (by omega) _ (by omega) hcut hW hQ
    ·have e : Num.endD (s.extract (p + 1) s.size) 0 = (s.extract (p + 1) s.size).size := by omega
     rw [e] at hQ
     exact parseP_n_a9 s _ _ w hs (by omega) (by omega) h0 hc hd (by omega) (by omega) hcut hW hQ
   ·intro w
    by_cases gk : k < s.size
    ·exact parseR_n_b5 s w hs h0 hc hd p hp hc1 k gk hD hK
    have ek : k = s.size := by omega
    rw [ek] at hK
    by_cases g9 : 9 < p
    ·exact parseR_n_b6 s w hs h0 hc hd p hp hc1 g9 hD hK
    by_cases g0 : s.size = p + 1
    ·exact parseR_n_b7 s w hs h0 hc hd p hp hc1 (by omega) g0 hD hK
    ·exact parseR_n_b8 s w hs h0 hc hd p hp hc1 (by omega) (by omega) hD hK
 | d3 p h hp hc1 he hw hk hq h9 q hz q1 q9 =>
   have z1 := W_size s p hp
   have z2 := Q_size s p
   have hcut := fun w => cut_at s p w h hp (by omega)
   have hW : ∀ w, Calls Tryz.prog 170 #[.string (s.extract 0 p)] w fun e w' => e = .returned (.int .i64 (s.extract 0 p).size) ∧ w = w' := fun w => by
    have := digitsP (s.extract 0 p) w (by omega)
    rw [hw] at this
    rw [z1]
    exact this
   have e : Num.endD (s.extract (p + 1) s.size) 0 = (s.extract (p + 1) s.size).size := by omega
   have hQ := fun w => digitsP (s.extract (p + 1) s.size) w (by omega)
   rw [e] at hQ
   have hK : ∀ w, Calls Tryz.prog 201 #[.string s, .int .i64 ((p : Int) + 1)] w fun e w' => e = .returned (.int .i64 s.size) ∧ w = w' := fun w => hk ▸ digitsR s (p + 1) w (by omega) (by omega)
   rw [he] at hD
   have aW : ∀ c ∈ (s.extract 0 p).data.toList, Num.isD c = true := endD_all (by rw [z1]; exact hw)
   have aQ : ∀ c ∈ (s.extract (p + 1) s.size).data.toList, Num.isD c = true := endD_all e
   have lW := list_len (s.extract 0 p)
   have lQ := list_len (s.extract (p + 1) s.size)
   have vW := Num.value_lt aW 0
   have vQ := Num.value_lt aQ 0
   have hpw : 10 ^ (s.extract 0 p).data.toList.length ≤ 10 ^ 9 := Nat.pow_le_pow_right (by omega) (by omega)
   have hpq : 10 ^ (s.extract (p + 1) s.size).data.toList.length ≤ 10 ^ 9 := Nat.pow_le_pow_right (by omega) (by omega)
   have eq : (s.extract (p + 1) s.size).size = q := by omega
   have hA : ∀ w, Calls Tryz.prog 66 #[.string (⟨#[48]⟩ ++ s.extract 0 p ++ s.extract (p + 1) s.size)] w fun e w' => e = .returned (.tuple #[.int .i64 (Num.value 0 ((s.extract 0 p).data.toList ++ (s.extract (p + 1) s.size).data.toList)), .nilIface]) ∧ Below w.heap.size w w' := by
    intro w
    rw [pre_zero _ _ _ rfl]
    refine atoi_any _ w ?_ (by rw [List.length_append]; omega)
    intro c hcm
    rcases List.mem_append.1 hcm with hcm | hcm
    ·exact aW c hcm
    ·exact aQ c hcm
   have hval : Num.value 0 ((s.extract 0 p).data.toList ++ (s.extract (p + 1) s.size).data.toList) = Num.value 0 (s.extract 0 p).data.toList * 10 ^ q + Num.value 0 (s.extract (p + 1) s.size).data.toList := by
    rw [Num.value_app, Num.value_acc, lQ, eq]
   have hpb := pow_bd q q9
   have hab : Num.value 0 ((s.extract 0 p).data.toList ++ (s.extract (p + 1) s.size).data.toList) < (0 + 1) * 10 ^ ((s.extract 0 p).data.toList ++ (s.extract (p + 1) s.size).data.toList).length := Num.value_lt (fun c hcm => by
    rcases List.mem_append.1 hcm with hcm | hcm
    ·exact aW c hcm
    ·exact aQ c hcm) 0
   have hpa : 10 ^ ((s.extract 0 p).data.toList ++ (s.extract (p + 1) s.size).data.toList).length ≤ 10 ^ 18 := Nat.pow_le_pow_right (by omega) (by rw [List.length_append]; omega)
   constructor
   ·intro w
    exact parseP_n_a10 s _ _ w hs (by omega) (by omega) h0 hc hd (by omega) (by omega) (by omega) hcut hW hQ ((Num.value 0 ((s.extract 0 p).data.toList ++ (s.extract (p + 1) s.size).data.toList) : Nat) : Int) ((10 : Int) ^ q) hA (fun w => by rw [eq]; exact power_any q w q9) (by omega) (by omega) hpb.1 hpb.2
   ·intro w
    have := parseR_n_b9 s w hs h0 hc hd p hp hc1 h9 q q1 q9 hz hD hK (Num.value 0 (s.extract 0 p).data.toList) (Num.value 0 (s.extract (p + 1) s.size).data.toList) ((10 : Int) ^ q) _ _ rfl rfl (fun w => valueR _ w (by omega) aW) (fun w => valueR _ w (by omega) aQ) (fun w => powerRef_any q w q9) (by omega) (by omega) (by omega) (by omega) hpb.1 hpb.2
    rw [show ((Num.value 0 (s.extract 0 p).data.toList : Nat) : Int) * (10 : Int) ^ q + (Num.value 0 (s.extract (p + 1) s.size).data.toList : Nat) = ((Num.value 0 ((s.extract 0 p).data.toList ++ (s.extract (p + 1) s.size).data.toList) : Nat) : Int) by rw [hval]; simp] at this
    exact this
theorem parse_e (s : ByteArray) (hs : s.size ≤ 400) (h0 : s.size = 0) : Ret 112 #[.string s] (0, 0, 1) ∧ Ret 143 #[.string s] (0, 0, 1) := by
 have hi : Lib.indexByte s.data.toList 46 = -1 := by
  have : s.data.toList = [] := List.eq_nil_of_length_eq_zero (by rw [list_len]; exact h0)
  rw [this]; rfl
 have hz : Num.endD s 0 = s.size := by have := Num.endD_le s 0 (by omega); omega
 refine ⟨fun w => parseP_e_a3 s s ⟨#[]⟩ w hs hs (by decide) h0 h0 (fun w => cut_no s w hi) (fun w => hz ▸ digitsP s w (by omega)), fun w => parseR_e_b3 s w hs h0 h0 (fun w => hz ▸ digitsR s 0 w (by omega) (by omega))⟩
theorem parse_p (s : ByteArray) (hs : s.size ≤ 400) (h0 : 0 < s.size) (hc : (s[0].toNat : Int) = 43) (o : Option (Nat × Nat)) (hr : Reads (s.extract 1 s.size) o) :
  Ret 112 #[.string s] (resV false o) ∧ Ret 143 #[.string s] (resV false o) := by
 have hRs : (s.extract 1 s.size).size = s.size - 1 := by rw [ByteArray.size_extract]; omega
 have hX : (s.extract 1 s.size).size ≤ 400 := by omega
 have hD : ∀ w, Calls Tryz.prog 201 #[.string (s.extract 1 s.size), .int .i64 0] w fun e w' => e = .returned (.int .i64 (Num.endD (s.extract 1 s.size) 0)) ∧ w = w' := fun w => digitsR (s.extract 1 s.size) 0 w (by omega) (by omega)
 cases hr with
 | a1 h hd0 hn => exact ⟨fun w => parseP_p_a1 s (s.extract 1 s.size) (s.extract 1 s.size) ⟨#[]⟩ w hs hX (by decide) h0 hc rfl _ hd0 false (fun w => cut_no _ w h) (fun w => digitsP _ w (by omega)), fun w => parseR_p_b1 s (s.extract 1 s.size) w hs h0 hc rfl _ hd0 hn hD⟩
 | a2 h hd0 h9 => exact ⟨fun w => parseP_p_a2 s (s.extract 1 s.size) (s.extract 1 s.size) ⟨#[]⟩ w hs hX (by decide) h0 hc rfl h9 false (fun w => cut_no _ w h) (fun w => hd0 ▸ digitsP _ w (by omega)), fun w => parseR_p_b2 s (s.extract 1 s.size) w hs h0 hc rfl h9 (fun w => hd0 ▸ hD w)⟩
 | a3 h hz =>
   have hd0 : Num.endD (s.extract 1 s.size) 0 = (s.extract 1 s.size).size := by have := Num.endD_le (s.extract 1 s.size) 0 (by omega); omega
   exact ⟨fun w => parseP_p_a3 s (s.extract 1 s.size) (s.extract 1 s.size) ⟨#[]⟩ w hs hX (by decide) h0 hc rfl hz (fun w => cut_no _ w h) (fun w => hd0 ▸ digitsP _ w (by omega)), fun w => parseR_p_b3 s (s.extract 1 s.size) w hs h0 hc rfl hz (fun w => hd0 ▸ hD w)⟩
 | a4 h hd0 h9 h1 =>
   have hall := endD_all hd0
   have hA : ∀ w, Calls Tryz.prog 66 #[.string (⟨#[48]⟩ ++ (s.extract 1 s.size) ++ ⟨#[]⟩)] w fun e w' => e = .returned (.tuple #[.int .i64 (Num.value 0 (s.extract 1 s.size).data.toList), .nilIface]) ∧ Below w.heap.size w w' := by
    intro w
    rw [pre_zero (s.extract 1 s.size).data.toList (s.extract 1 s.size) ⟨#[]⟩ (by simp)]
    exact atoi_any _ w hall (by rw [list_len]; omega)
   have hv := Num.value_lt hall 0
   have hp : 10 ^ (s.extract 1 s.size).data.toList.length ≤ 10 ^ 9 := Nat.pow_le_pow_right (by omega) (by rw [list_len]; exact h9)
   exact ⟨fun w => parseP_p_a4 s (s.extract 1 s.size) (s.extract 1 s.size) ⟨#[]⟩ w hs hX (by decide) h0 hc rfl h9 h1 (by decide) (fun w => cut_no _ w h) (fun w => hd0 ▸ digitsP _ w (by omega)) ((Num.value 0 (s.extract 1 s.size).data.toList : Nat) : Int) 1 hA (fun w => power_any 0 w (by omega)) (by omega) (by omega) (by omega) (by omega),
    fun w => parseR_p_b4 s (s.extract 1 s.size) w hs h0 hc rfl h9 h1 (fun w => hd0 ▸ hD w) ((Num.value 0 (s.extract 1 s.size).data.toList : Nat) : Int) (fun w => valueR _ w (by omega) hall) (by omega) (by omega)⟩
 | d1 p h hp hc1 he hw hn =>
   have z1 := W_size (s.extract 1 s.size) p hp
   have z2 := Q_size (s.extract 1 s.size) p
   exact ⟨fun w => parseP_p_a1 s (s.extract 1 s.size) ((s.extract 1 s.size).extract 0 p) ((s.extract 1 s.size).extract (p + 1) (s.extract 1 s.size).size) w hs (by omega) (by omega) h0 hc rfl _ (by rw [z1]; exact hw) true (fun w => cut_at _ p w h hp (by omega)) (fun w => digitsP _ w (by omega)), fun w => parseR_p_b1 s (s.extract 1 s.size) w hs h0 hc rfl _ (by omega) hn hD⟩
 | d2 p h hp hc1 he hw k hk hq bad =>
   have z1 := W_size (s.extract 1 s.size) p hp
   have z2 := Q_size (s.extract 1 s.size) p
   have hcut := fun w => cut_at (s.extract 1 s.size) p w h hp (by omega)
   have hW : ∀ w, Calls Tryz.prog 170 #[.string ((s.extract 1 s.size).extract 0 p)] w fun e w' => e = .returned (.int .i64 ((s.extract 1 s.size).extract 0 p).size) ∧ w = w' := fun w => by
    have := digitsP ((s.extract 1 s.size).extract 0 p) w (by omega)
    rw [hw] at this
    rw [z1]
    exact this
   have hQ := fun w => digitsP ((s.extract 1 s.size).extract (p + 1) (s.extract 1 s.size).size) w (by omega)
   have hK : ∀ w, Calls Tryz.prog 201 #[.string (s.extract 1 s.size), .int .i64 ((p : Int) + 1)] w fun e w' => e = .returned (.int .i64 k) ∧ w = w' := fun w => hk ▸ digitsR (s.extract 1 s.size) (p + 1) w (by omega) (by omega)
   have hle := Num.endD_le ((s.extract 1 s.size).extract (p + 1) (s.extract 1 s.size).size) 0 (by omega)
   rw [he] at hD
   constructor
   ·intro w
    by_cases g9 : 9 < p
    ·exact parseP_p_a2 s (s.extract 1 s.size) _ _ w hs (by omega) (by omega) h0 hc rfl (by rw [z1]; exact g9) true hcut hW
    by_cases g0 : (s.extract 1 s.size).size = p + 1
    ·exact parseP_p_a7 s (s.extract 1 s.size) _ _ w hs (by omega) (by omega) h0 hc rfl (by omega) (by omega) hcut hW
    by_cases gk : k < (s.extract 1 s.size).size
    ·exact parseP_p_a8 s (s.extract 1 s.size) _ _ w hs (by omega) (by omega) h0 hc rfl (by omega) (by omega) _ (by omega) hcut hW hQ
    ·have e : Num.endD ((s.extract 1 s.size).extract (p + 1) (s.extract 1 s.size).size) 0 = ((s.extract 1 s.size).extract (p + 1) (s.extract 1 s.size).size).size := by omega
     rw [e] at hQ
     exact parseP_p_a9 s (s.extract 1 s.size) _ _ w hs (by omega) (by omega) h0 hc rfl (by omega) (by omega) hcut hW hQ
   ·intro w
    by_cases gk : k < (s.extract 1 s.size).size
    ·exact parseR_p_b5 s (s.extract 1 s.size) w hs h0 hc rfl p hp hc1 k gk hD hK
    have ek : k = (s.extract 1 s.size).size := by omega
    rw [ek] at hK
    by_cases g9 : 9 < p
    ·exact parseR_p_b6 s (s.extract 1 s.size) w hs h0 hc rfl p hp hc1 g9 hD hK
    by_cases g0 : (s.extract 1 s.size).size = p + 1
    ·exact parseR_p_b7 s (s.extract 1 s.size) w hs h0 hc rfl p hp hc1 (by omega) g0 hD hK
    ·exact parseR_p_b8 s (s.extract 1 s.size) w hs h0 hc rfl p hp hc1 (by omega) (by omega) hD hK
 | d3 p h hp hc1 he hw hk hq h9 q hz q1 q9 =>
   have z1 := W_size (s.extract 1 s.size) p hp
   have z2 := Q_size (s.extract 1 s.size) p
   have hcut := fun w => cut_at (s.extract 1 s.size) p w h hp (by omega)
   have hW : ∀ w, Calls Tryz.prog 170 #[.string ((s.extract 1 s.size).extract 0 p)] w fun e w' => e = .returned (.int .i64 ((s.extract 1 s.size).extract 0 p).size) ∧ w = w' := fun w => by
    have := digitsP ((s.extract 1 s.size).extract 0 p) w (by omega)
    rw [hw] at this
    rw [z1]
    exact this
   have e : Num.endD ((s.extract 1 s.size).extract (p + 1) (s.extract 1 s.size).size) 0 = ((s.extract 1 s.size).extract (p + 1) (s.extract 1 s.size).size).size := by omega
   have hQ := fun w => digitsP ((s.extract 1 s.size).extract (p + 1) (s.extract 1 s.size).size) w (by omega)
   rw [e] at hQ
   have hK : ∀ w, Calls Tryz.prog 201 #[.string (s.extract 1 s.size), .int .i64 ((p : Int) + 1)] w fun e w' => e = .returned (.int .i64 (s.extract 1 s.size).size) ∧ w = w' := fun w => hk ▸ digitsR (s.extract 1 s.size) (p + 1) w (by omega) (by omega)
   rw [he] at hD
   have aW : ∀ c ∈ ((s.extract 1 s.size).extract 0 p).data.toList, Num.isD c = true := endD_all (by rw [z1]; exact hw)
   have aQ : ∀ c ∈ ((s.extract 1 s.size).extract (p + 1) (s.extract 1 s.size).size).data.toList, Num.isD c = true := endD_all e
   have lW := list_len ((s.extract 1 s.size).extract 0 p)
   have lQ := list_len ((s.extract 1 s.size).extract (p + 1) (s.extract 1 s.size).size)
   have vW := Num.value_lt aW 0
   have vQ := Num.value_lt aQ 0
   have hpw : 10 ^ ((s.extract 1 s.size).extract 0 p).data.toList.length ≤ 10 ^ 9 := Nat.pow_le_pow_right (by omega) (by omega)
   have hpq : 10 ^ ((s.extract 1 s.size).extract (p + 1) (s.extract 1 s.size).size).data.toList.length ≤ 10 ^ 9 := Nat.pow_le_pow_right (by omega) (by omega)
   have eq : ((s.extract 1 s.size).extract (p + 1) (s.extract 1 s.size).size).size = q := by omega
   have hA : ∀ w, Calls Tryz.prog 66 #[.string (⟨#[48]⟩ ++ (s.extract 1 s.size).extract 0 p ++ (s.extract 1 s.size).extract (p + 1) (s.extract 1 s.size).size)] w fun e w' => e = .returned (.tuple #[.int .i64 (Num.value 0 (((s.extract 1 s.size).extract 0 p).data.toList ++ ((s.extract 1 s.size).extract (p + 1) (s.extract 1 s.size).size).data.toList)), .nilIface]) ∧ Below w.heap.size w w' := by
    intro w
    rw [pre_zero _ _ _ rfl]
    refine atoi_any _ w ?_ (by rw [List.length_append]; omega)
    intro c hcm
    rcases List.mem_append.1 hcm with hcm | hcm
    ·exact aW c hcm
    ·exact aQ c hcm
   have hval : Num.value 0 (((s.extract 1 s.size).extract 0 p).data.toList ++ ((s.extract 1 s.size).extract (p + 1) (s.extract 1 s.size).size).data.toList) = Num.value 0 ((s.extract 1 s.size).extract 0 p).data.toList * 10 ^ q + Num.value 0 ((s.extract 1 s.size).extract (p + 1) (s.extract 1 s.size).size).data.toList := by
    rw [Num.value_app, Num.value_acc, lQ, eq]
   have hpb := pow_bd q q9
   have hab : Num.value 0 (((s.extract 1 s.size).extract 0 p).data.toList ++ ((s.extract 1 s.size).extract (p + 1) (s.extract 1 s.size).size).data.toList) < (0 + 1) * 10 ^ (((s.extract 1 s.size).extract 0 p).data.toList ++ ((s.extract 1 s.size).extract (p + 1) (s.extract 1 s.size).size).data.toList).length := Num.value_lt (fun c hcm => by
    rcases List.mem_append.1 hcm with hcm | hcm
    ·exact aW c hcm
    ·exact aQ c hcm) 0
   have hpa : 10 ^ (((s.extract 1 s.size).extract 0 p).data.toList ++ ((s.extract 1 s.size).extract (p + 1) (s.extract 1 s.size).size).data.toList).length ≤ 10 ^ 18 := Nat.pow_le_pow_right (by omega) (by rw [List.length_append]; omega)
   constructor
   ·intro w
    exact parseP_p_a10 s (s.extract 1 s.size) _ _ w hs (by omega) (by omega) h0 hc rfl (by omega) (by omega) (by omega) hcut hW hQ ((Num.value 0 (((s.extract 1 s.size).extract 0 p).data.toList ++ ((s.extract 1 s.size).extract (p + 1) (s.extract 1 s.size).size).data.toList) : Nat) : Int) ((10 : Int) ^ q) hA (fun w => by rw [eq]; exact power_any q w q9) (by omega) (by omega) hpb.1 hpb.2
   ·intro w
    have := parseR_p_b9 s (s.extract 1 s.size) w hs h0 hc rfl p hp hc1 h9 q q1 q9 hz hD hK (Num.value 0 ((s.extract 1 s.size).extract 0 p).data.toList) (Num.value 0 ((s.extract 1 s.size).extract (p + 1) (s.extract 1 s.size).size).data.toList) ((10 : Int) ^ q) _ _ rfl rfl (fun w => valueR _ w (by omega) aW) (fun w => valueR _ w (by omega) aQ) (fun w => powerRef_any q w q9) (by omega) (by omega) (by omega) (by omega) hpb.1 hpb.2
    rw [show ((Num.value 0 ((s.extract 1 s.size).extract 0 p).data.toList : Nat) : Int) * (10 : Int) ^ q + (Num.value 0 ((s.extract 1 s.size).extract (p + 1) (s.extract 1 s.size).size).data.toList : Nat) = ((Num.value 0 (((s.extract 1 s.size).extract 0 p).data.toList ++ ((s.extract 1 s.size).extract (p + 1) (s.extract 1 s.size).size).data.toList) : Nat) : Int) by rw [hval]; simp] at this
    exact this
theorem parse_m (s : ByteArray) (hs : s.size ≤ 400) (h0 : 0 < s.size) (hc : (s[0].toNat : Int) = 45) (o : Option (Nat × Nat)) (hr : Reads (s.extract 1 s.size) o) :
  Ret 112 #[.string s] (resV true o) ∧ Ret 143 #[.string s] (resV true o) := by
 have hRs : (s.extract 1 s.size).size = s.size - 1 := by rw [ByteArray.size_extract]; omega
 have hX : (s.extract 1 s.size).size ≤ 400 := by omega
 have hD : ∀ w, Calls Tryz.prog 201 #[.string (s.extract 1 s.size), .int .i64 0] w fun e w' => e = .returned (.int .i64 (Num.endD (s.extract 1 s.size) 0)) ∧ w = w' := fun w => digitsR (s.extract 1 s.size) 0 w (by omega) (by omega)
 cases hr with
 | a1 h hd0 hn => exact ⟨fun w => parseP_m_a1 s (s.extract 1 s.size) (s.extract 1 s.size) ⟨#[]⟩ w hs hX (by decide) h0 hc rfl _ hd0 false (fun w => cut_no _ w h) (fun w => digitsP _ w (by omega)), fun w => parseR_m_b1 s (s.extract 1 s.size) w hs h0 hc rfl _ hd0 hn hD⟩
 | a2 h hd0 h9 => exact ⟨fun w => parseP_m_a2 s (s.extract 1 s.size) (s.extract 1 s.size) ⟨#[]⟩ w hs hX (by decide) h0 hc rfl h9 false (fun w => cut_no _ w h) (fun w => hd0 ▸ digitsP _ w (by omega)), fun w => parseR_m_b2 s (s.extract 1 s.size) w hs h0 hc rfl h9 (fun w => hd0 ▸ hD w)⟩
 | a3 h hz =>
   have hd0 : Num.endD (s.extract 1 s.size) 0 = (s.extract 1 s.size).size := by have := Num.endD_le (s.extract 1 s.size) 0 (by omega); omega
   exact ⟨fun w => parseP_m_a3 s (s.extract 1 s.size) (s.extract 1 s.size) ⟨#[]⟩ w hs hX (by decide) h0 hc rfl hz (fun w => cut_no _ w h) (fun w => hd0 ▸ digitsP _ w (by omega)), fun w => parseR_m_b3 s (s.extract 1 s.size) w hs h0 hc rfl hz (fun w => hd0 ▸ hD w)⟩
 | a4 h hd0 h9 h1 =>
   have hall := endD_all hd0
   have hA : ∀ w, Calls Tryz.prog 66 #[.string (⟨#[48]⟩ ++ (s.extract 1 s.size) ++ ⟨#[]⟩)] w fun e w' => e = .returned (.tuple #[.int .i64 (Num.value 0 (s.extract 1 s.size).data.toList), .nilIface]) ∧ Below w.heap.size w w' := by
    intro w
    rw [pre_zero (s.extract 1 s.size).data.toList (s.extract 1 s.size) ⟨#[]⟩ (by simp)]
    exact atoi_any _ w hall (by rw [list_len]; omega)
   have hv := Num.value_lt hall 0
   have hp : 10 ^ (s.extract 1 s.size).data.toList.length ≤ 10 ^ 9 := Nat.pow_le_pow_right (by omega) (by rw [list_len]; exact h9)
   exact ⟨fun w => parseP_m_a4 s (s.extract 1 s.size) (s.extract 1 s.size) ⟨#[]⟩ w hs hX (by decide) h0 hc rfl h9 h1 (by decide) (fun w => cut_no _ w h) (fun w => hd0 ▸ digitsP _ w (by omega)) ((Num.value 0 (s.extract 1 s.size).data.toList : Nat) : Int) 1 hA (fun w => power_any 0 w (by omega)) (by omega) (by omega) (by omega) (by omega),
    fun w => parseR_m_b4 s (s.extract 1 s.size) w hs h0 hc rfl h9 h1 (fun w => hd0 ▸ hD w) ((Num.value 0 (s.extract 1 s.size).data.toList : Nat) : Int) (fun w => valueR _ w (by omega) hall) (by omega) (by omega)⟩
 | d1 p h hp hc1 he hw hn =>
   have z1 := W_size (s.extract 1 s.size) p hp
   have z2 := Q_size (s.extract 1 s.size) p
   exact ⟨fun w => parseP_m_a1 s (s.extract 1 s.size) ((s.extract 1 s.size).extract 0 p) ((s.extract 1 s.size).extract (p + 1) (s.extract 1 s.size).size) w hs (by omega) (by omega) h0 hc rfl _ (by rw [z1]; exact hw) true (fun w => cut_at _ p w h hp (by omega)) (fun w => digitsP _ w (by omega)), fun w => parseR_m_b1 s (s.extract 1 s.size) w hs h0 hc rfl _ (by omega) hn hD⟩
 | d2 p h hp hc1 he hw k hk hq bad =>
   have z1 := W_size (s.extract 1 s.size) p hp
   have z2 := Q_size (s.extract 1 s.size) p
   have hcut := fun w => cut_at (s.extract 1 s.size) p w h hp (by omega)
   have hW : ∀ w, Calls Tryz.prog 170 #[.string ((s.extract 1 s.size).extract 0 p)] w fun e w' => e = .returned (.int .i64 ((s.extract 1 s.size).extract 0 p).size) ∧ w = w' := fun w => by
    have := digitsP ((s.extract 1 s.size).extract 0 p) w (by omega)
    rw [hw] at this
    rw [z1]
    exact this
   have hQ := fun w => digitsP ((s.extract 1 s.size).extract (p + 1) (s.extract 1 s.size).size) w (by omega)
   have hK : ∀ w, Calls Tryz.prog 201 #[.string (s.extract 1 s.size), .int .i64 ((p : Int) + 1)] w fun e w' => e = .returned (.int .i64 k) ∧ w = w' := fun w => hk ▸ digitsR (s.extract 1 s.size) (p + 1) w (by omega) (by omega)
   have hle := Num.endD_le ((s.extract 1 s.size).extract (p + 1) (s.extract 1 s.size).size) 0 (by omega)
   rw [he] at hD
   constructor
   ·intro w
    by_cases g9 : 9 < p
    ·exact parseP_m_a2 s (s.extract 1 s.size) _ _ w hs (by omega) (by omega) h0 hc rfl (by rw [z1]; exact g9) true hcut hW
    by_cases g0 : (s.extract 1 s.size).size = p + 1
    ·exact parseP_m_a7 s (s.extract 1 s.size) _ _ w hs (by omega) (by omega) h0 hc rfl (by omega) (by omega) hcut hW
    by_cases gk : k < (s.extract 1 s.size).size
    ·exact parseP_m_a8 s (s.extract 1 s.size) _ _ w hs (by omega) (by omega) h0 hc rfl (by omega) (by omega) _ (by omega) hcut hW hQ
    ·have e : Num.endD ((s.extract 1 s.size).extract (p + 1) (s.extract 1 s.size).size) 0 = ((s.extract 1 s.size).extract (p + 1) (s.extract 1 s.size).size).size := by omega
     rw [e] at hQ
     exact parseP_m_a9 s (s.extract 1 s.size) _ _ w hs (by omega) (by omega) h0 hc rfl (by omega) (by omega) hcut hW hQ
   ·intro w
    by_cases gk : k < (s.extract 1 s.size).size
    ·exact parseR_m_b5 s (s.extract 1 s.size) w hs h0 hc rfl p hp hc1 k gk hD hK
    have ek : k = (s.extract 1 s.size).size := by omega
    rw [ek] at hK
    by_cases g9 : 9 < p
    ·exact parseR_m_b6 s (s.extract 1 s.size) w hs h0 hc rfl p hp hc1 g9 hD hK
    by_cases g0 : (s.extract 1 s.size).size = p + 1
    ·exact parseR_m_b7 s (s.extract 1 s.size) w hs h0 hc rfl p hp hc1 (by omega) g0 hD hK
    ·exact parseR_m_b8 s (s.extract 1 s.size) w hs h0 hc rfl p hp hc1 (by omega) (by omega) hD hK
 | d3 p h hp hc1 he hw hk hq h9 q hz q1 q9 =>
   have z1 := W_size (s.extract 1 s.size) p hp
   have z2 := Q_size (s.extract 1 s.size) p
   have hcut := fun w => cut_at (s.extract 1 s.size) p w h hp (by omega)
   have hW : ∀ w, Calls Tryz.prog 170 #[.string ((s.extract 1 s.size).extract 0 p)] w fun e w' => e = .returned (.int .i64 ((s.extract 1 s.size).extract 0 p).size) ∧ w = w' := fun w => by
    have := digitsP ((s.extract 1 s.size).extract 0 p) w (by omega)
    rw [hw] at this
    rw [z1]
    exact this
   have e : Num.endD ((s.extract 1 s.size).extract (p + 1) (s.extract 1 s.size).size) 0 = ((s.extract 1 s.size).extract (p + 1) (s.extract 1 s.size).size).size := by omega
   have hQ := fun w => digitsP ((s.extract 1 s.size).extract (p + 1) (s.extract 1 s.size).size) w (by omega)
   rw [e] at hQ
   have hK : ∀ w, Calls Tryz.prog 201 #[.string (s.extract 1 s.size), .int .i64 ((p : Int) + 1)] w fun e w' => e = .returned (.int .i64 (s.extract 1 s.size).size) ∧ w = w' := fun w => hk ▸ digitsR (s.extract 1 s.size) (p + 1) w (by omega) (by omega)
   rw [he] at hD
   have aW : ∀ c ∈ ((s.extract 1 s.size).extract 0 p).data.toList, Num.isD c = true := endD_all (by rw [z1]; exact hw)
   have aQ : ∀ c ∈ ((s.extract 1 s.size).extract (p + 1) (s.extract 1 s.size).size).data.toList, Num.isD c = true := endD_all e
   have lW := list_len ((s.extract 1 s.size).extract 0 p)
   have lQ := list_len ((s.extract 1 s.size).extract (p + 1) (s.extract 1 s.size).size)
   have vW := Num.value_lt aW 0
   have vQ := Num.value_lt aQ 0
   have hpw : 10 ^ ((s.extract 1 s.size).extract 0 p).data.toList.length ≤ 10 ^ 9 := Nat.pow_le_pow_right (by omega) (by omega)
   have hpq : 10 ^ ((s.extract 1 s.size).extract (p + 1) (s.extract 1 s.size).size).data.toList.length ≤ 10 ^ 9 := Nat.pow_le_pow_right (by omega) (by omega)
   have eq : ((s.extract 1 s.size).extract (p + 1) (s.extract 1 s.size).size).size = q := by omega
   have hA : ∀ w, Calls Tryz.prog 66 #[.string (⟨#[48]⟩ ++ (s.extract 1 s.size).extract 0 p ++ (s.extract 1 s.size).extract (p + 1) (s.extract 1 s.size).size)] w fun e w' => e = .returned (.tuple #[.int .i64 (Num.value 0 (((s.extract 1 s.size).extract 0 p).data.toList ++ ((s.extract 1 s.size).extract (p + 1) (s.extract 1 s.size).size).data.toList)), .nilIface]) ∧ Below w.heap.size w w' := by
    intro w
    rw [pre_zero _ _ _ rfl]
    refine atoi_any _ w ?_ (by rw [List.length_append]; omega)
    intro c hcm
    rcases List.mem_append.1 hcm with hcm | hcm
    ·exact aW c hcm
    ·exact aQ c hcm
   have hval : Num.value 0 (((s.extract 1 s.size).extract 0 p).data.toList ++ ((s.extract 1 s.size).extract (p + 1) (s.extract 1 s.size).size).data.toList) = Num.value 0 ((s.extract 1 s.size).extract 0 p).data.toList * 10 ^ q + Num.value 0 ((s.extract 1 s.size).extract (p + 1) (s.extract 1 s.size).size).data.toList := by
    rw [Num.value_app, Num.value_acc, lQ, eq]
   have hpb := pow_bd q q9
   have hab : Num.value 0 (((s.extract 1 s.size).extract 0 p).data.toList ++ ((s.extract 1 s.size).extract (p + 1) (s.extract 1 s.size).size).data.toList) < (0 + 1) * 10 ^ (((s.extract 1 s.size).extract 0 p).data.toList ++ ((s.extract 1 s.size).extract (p + 1) (s.extract 1 s.size).size).data.toList).length := Num.value_lt (fun c hcm => by
    rcases List.mem_append.1 hcm with hcm | hcm
    ·exact aW c hcm
    ·exact aQ c hcm) 0
   have hpa : 10 ^ (((s.extract 1 s.size).extract 0 p).data.toList ++ ((s.extract 1 s.size).extract (p + 1) (s.extract 1 s.size).size).data.toList).length ≤ 10 ^ 18 := Nat.pow_le_pow_right (by omega) (by rw [List.length_append]; omega)
   constructor
   ·intro w
    exact parseP_m_a10 s (s.extract 1 s.size) _ _ w hs (by omega) (by omega) h0 hc rfl (by omega) (by omega) (by omega) hcut hW hQ ((Num.value 0 (((s.extract 1 s.size).extract 0 p).data.toList ++ ((s.extract 1 s.size).extract (p + 1) (s.extract 1 s.size).size).data.toList) : Nat) : Int) ((10 : Int) ^ q) hA (fun w => by rw [eq]; exact power_any q w q9) (by omega) (by omega) hpb.1 hpb.2
   ·intro w
    have := parseR_m_b9 s (s.extract 1 s.size) w hs h0 hc rfl p hp hc1 h9 q q1 q9 hz hD hK (Num.value 0 ((s.extract 1 s.size).extract 0 p).data.toList) (Num.value 0 ((s.extract 1 s.size).extract (p + 1) (s.extract 1 s.size).size).data.toList) ((10 : Int) ^ q) _ _ rfl rfl (fun w => valueR _ w (by omega) aW) (fun w => valueR _ w (by omega) aQ) (fun w => powerRef_any q w q9) (by omega) (by omega) (by omega) (by omega) hpb.1 hpb.2
    rw [show ((Num.value 0 ((s.extract 1 s.size).extract 0 p).data.toList : Nat) : Int) * (10 : Int) ^ q + (Num.value 0 ((s.extract 1 s.size).extract (p + 1) (s.extract 1 s.size).size).data.toList : Nat) = ((Num.value 0 (((s.extract 1 s.size).extract 0 p).data.toList ++ ((s.extract 1 s.size).extract (p + 1) (s.extract 1 s.size).size).data.toList) : Nat) : Int) by rw [hval]; simp] at this
    exact this
end Go.Proofs.YtcklofamaooegaaGreatDoor
