/-
  The claim's own texts, packed. Conditions: those typed in each theorem.
-/
import Derived.Test.YtcklofamaooegaaGreatDoorZKabg
import Derived.Lib.AtoiErrMem
import Derived.Test.YtcklofamaooegaaGreatDoorZKaah
set_option maxHeartbeats 4000000
set_option maxRecDepth 10000
set_option linter.unusedVariables false
namespace Go.Proofs.YtcklofamaooegaaGreatDoor
open Go.RowKit
theorem lite_no (s : ByteArray) (w : World) (h : Lib.indexByte s.data.toList 46 = -1) :
  Calls Tryz.prog 221 #[.string s, .string ⟨#[46]⟩] w fun e w' => e = .returned (.tuple #[.string s, .string ⟨#[]⟩, .bool false]) ∧ Below w.heap.size w w' := by
 have hI := fun w => Tryz.stringslite_Index_one s 46 w
 rw [h] at hI
 go_enter Tryz.func221, Tryz.ntmps221
 go_wp2_with fail
 refine (hI _).mono ?_
 rintro e w1 ⟨rfl, rfl⟩
 go_wp2_with fail
 exact bodyPost_ret (v := .tuple #[.string s, .string ⟨#[]⟩, .bool false]) (by simp [results, Tryz.results221, go_sem]) rfl ⟨rfl, Below.refl _ _⟩
theorem lite_at (s : ByteArray) (p : Nat) (w : World) (h : Lib.indexByte s.data.toList 46 = p) (hp : p < s.size) (hs : s.size ≤ 1000) :
  Calls Tryz.prog 221 #[.string s, .string ⟨#[46]⟩] w fun e w' => e = .returned (.tuple #[.string (s.extract 0 p), .string (s.extract (p + 1) s.size), .bool true]) ∧ Below w.heap.size w w' := by
 have hI := fun w => Tryz.stringslite_Index_one s 46 w
 rw [h] at hI
 go_enter Tryz.func221, Tryz.ntmps221
 go_wp2_with fail
 refine (hI _).mono ?_
 rintro e w1 ⟨rfl, rfl⟩
 go_wp2_with fail
 go_region
 all_goals (try go_wp2_with fail)
 exact bodyPost_ret (v := .tuple #[.string (s.extract 0 p), .string (s.extract (p + 1) s.size), .bool true]) (by simp [results, Tryz.results221, go_sem]) rfl ⟨rfl, (Below.refl _ _).drew⟩
theorem cut_no (s : ByteArray) (w : World) (h : Lib.indexByte s.data.toList 46 = -1) :
  Calls Tryz.prog 169 #[.string s, .string ⟨#[46]⟩] w fun e w' => e = .returned (.tuple #[.string s, .string ⟨#[]⟩, .bool false]) ∧ Below w.heap.size w w' := by
 go_enter Tryz.func169, Tryz.ntmps169
 go_wp2_with fail
 refine (lite_no s _ h).mono ?_
 rintro e w1 ⟨rfl, hb⟩
 go_wp2_with fail
 exact bodyPost_ret (v := .tuple #[.string s, .string ⟨#[]⟩, .bool false]) (by simp [results, Tryz.results169, go_sem]) rfl ⟨rfl, hb⟩
theorem cut_at (s : ByteArray) (p : Nat) (w : World) (h : Lib.indexByte s.data.toList 46 = p) (hp : p < s.size) (hs : s.size ≤ 1000) :
  Calls Tryz.prog 169 #[.string s, .string ⟨#[46]⟩] w fun e w' => e = .returned (.tuple #[.string (s.extract 0 p), .string (s.extract (p + 1) s.size), .bool true]) ∧ Below w.heap.size w w' := by
 go_enter Tryz.func169, Tryz.ntmps169
 go_wp2_with fail
 refine (lite_at s p _ h hp hs).mono ?_
 rintro e w1 ⟨rfl, hb⟩
 go_wp2_with fail
 exact bodyPost_ret (v := .tuple #[.string (s.extract 0 p), .string (s.extract (p + 1) s.size), .bool true]) (by simp [results, Tryz.results169, go_sem]) rfl ⟨rfl, hb⟩
theorem index_cases : ∀ l : List UInt8, Lib.indexByte l 46 = -1 ∧ (∀ c ∈ l, c ≠ 46) ∨ ∃ p, ∃ h : p < l.length, Lib.indexByte l 46 = (p : Int) ∧ l[p] = 46 ∧ ∀ c ∈ l.take p, c ≠ 46
 | [] => .inl ⟨rfl, by simp⟩
 | b :: r => by
   by_cases hb : b = 46
   ·exact .inr ⟨0, by simp, by simp [Lib.indexByte, hb], by simpa using hb, by simp⟩
   ·rcases index_cases r with ⟨h1, h2⟩ | ⟨p, hp, h1, h2, h3⟩
    ·refine .inl ⟨by simp [Lib.indexByte, hb, h1], ?_⟩
     intro c hc
     rcases List.mem_cons.1 hc with rfl | hc
     ·exact hb
     ·exact h2 c hc
    ·refine .inr ⟨p + 1, by simp <;> omega, ?_, by simpa using h2, ?_⟩
     ·have : ((p : Int) == -1) = false := by simp <;> omega
      simp [Lib.indexByte, hb, h1, this]
     ·intro c hc
      rw [List.take_succ_cons] at hc
      rcases List.mem_cons.1 hc with rfl | hc
      ·exact hb
      ·exact h3 c hc
theorem atoi_any (l : List UInt8) (w : World) (h : ∀ c ∈ l, Num.isD c = true) (hl : l.length ≤ 18) :
  Calls Tryz.prog 66 #[.string ⟨(48 :: l).toArray⟩] w fun e w' => e = .returned (.tuple #[.int .i64 (Num.value 0 l), .nilIface]) ∧ Below w.heap.size w w' := by
 refine (Tryz.strconv_Atoi_ok ⟨(48 :: l).toArray⟩ (by rw [size_mk]; simp <;> omega) (Num.value 0 l) (Num.atoi_digits l h hl) w).mono ?_
 rintro e w' ⟨rfl, rfl | ⟨t, rfl⟩⟩
 ·exact ⟨rfl, Below.refl _ _⟩
 ·exact ⟨rfl, Lib.bytesWorld_below _ _ _⟩
theorem emp_no (s : ByteArray) (h : 0 < s.size) : s.toList.isEmpty = false := by
 rw [ByteArray.toList_eq]
 cases hl : s.data.toList with
 | nil => have : s.data.toList.length = s.size := by simp
          rw [hl] at this; simp at this; omega
 | cons _ _ => rfl
theorem emp_yes (s : ByteArray) (h : s.size = 0) : s.toList.isEmpty = true := by
 rw [ByteArray.toList_eq]
 cases hl : s.data.toList with
 | nil => rfl
 | cons a l => have : s.data.toList.length = s.size := by simp
               rw [hl] at this; simp at this; omega
theorem parseP_e_a3 (s W Q : ByteArray) (w : World) (hs : s.size ≤ 400) (hw : W.size ≤ 400) (hq100 : Q.size ≤ 400) (h0 : s.size = 0) (h9 : W.size = 0)
  (hcut : ∀ w, Calls Tryz.prog 169 #[.string s, .string ⟨#[46]⟩] w fun e w' => e = .returned (.tuple #[.string W, .string Q, .bool false]) ∧ Below w.heap.size w w')
  (hW : ∀ w, Calls Tryz.prog 170 #[.string W] w fun e w' => e = .returned (.int .i64 W.size) ∧ w = w') :
  Calls Tryz.prog 112 #[.string s] w fun e w' => e = .returned (.tuple #[.agg #[.int .i64 0, .int .i64 0], .int .i64 1]) ∧ Below w.heap.size w w' := by
 have hem := emp_yes s h0
 have f1 := emp_yes W h9
 have f2 : decide (9 < W.size) = false := by simp; omega
 have KR := Known.made w 50 #[.int .i64 0, .int .i64 0]
 have hb := below_new0 w (.cells #[.int .i64 0, .int .i64 0] 50)
 have hl : w.heap.size ≤ w.heap.size := Nat.le_refl _
 go_enter Tryz.func112, Tryz.ntmps112
 go_wp2_with fail
 refine (hcut _).mono ?_
 rintro e w1 ⟨rfl, hb1⟩
 replace hb := hb.then_ hb1
 replace KR := KR.on hb1
 clear hcut
 go_wp2_with fail
 refine (hW _).mono ?_
 rintro e w2 ⟨rfl, rfl⟩
 have q0 := KR.free 0
 have q1 := KR.free 1
 obtain ⟨r0, r1⟩ := KR.two
 have Kz : Known _ _ _ #[.int .i64 0, .int .i64 0] := (KR.put 0 (.int .i64 0)).put 1 (.int .i64 0)
 obtain ⟨z0, z1⟩ := Kz.two
 go_wp2_with fail
 exact bodyPost_ret (v := .tuple #[.agg #[.int .i64 0, .int .i64 0], .int .i64 1]) (by simp [results, Tryz.results112, go_sem, z0, z1]) rfl ⟨rfl, (hb.setCell (p := ⟨w.heap.size, 0, none⟩) hl _).setCell (p := ⟨w.heap.size, 1, none⟩) hl _⟩
theorem parseP_n_a1 (s W Q : ByteArray) (w : World) (hs : s.size ≤ 400) (hw : W.size ≤ 400) (hq100 : Q.size ≤ 400) (h0 : 0 < s.size) (hc : ¬ (s[0].toNat : Int) = 43) (hd : ¬ (s[0].toNat : Int) = 45) (dw : Nat) (hdw : dw < W.size) (b : Bool)
  (hcut : ∀ w, Calls Tryz.prog 169 #[.string s, .string ⟨#[46]⟩] w fun e w' => e = .returned (.tuple #[.string W, .string Q, .bool b]) ∧ Below w.heap.size w w')
  (hW : ∀ w, Calls Tryz.prog 170 #[.string W] w fun e w' => e = .returned (.int .i64 dw) ∧ w = w') :
  Calls Tryz.prog 112 #[.string s] w fun e w' => e = .returned (.tuple #[.agg #[.int .i64 0, .int .i64 0], .int .i64 1]) ∧ Below w.heap.size w w' := by
 have hem := emp_no s h0
 have hc' : ((s[0].toNat : Int) == 43) = false := by simpa using hc
 have hd' : ((s[0].toNat : Int) == 45) = false := by simpa using hd
 have f1 : decide (dw < W.size) = true := by simpa using hdw
 have KR := Known.made w 50 #[.int .i64 0, .int .i64 0]
 have hb := below_new0 w (.cells #[.int .i64 0, .int .i64 0] 50)
 have hl : w.heap.size ≤ w.heap.size := Nat.le_refl _
 go_enter Tryz.func112, Tryz.ntmps112
 go_wp2_with fail
 refine (hcut _).mono ?_
 rintro e w1 ⟨rfl, hb1⟩
 replace hb := hb.then_ hb1
 replace KR := KR.on hb1
 clear hcut
 go_wp2_with fail
 refine (hW _).mono ?_
 rintro e w2 ⟨rfl, rfl⟩
 have q0 := KR.free 0
 have q1 := KR.free 1
 obtain ⟨r0, r1⟩ := KR.two
 have Kz : Known _ _ _ #[.int .i64 0, .int .i64 0] := (KR.put 0 (.int .i64 0)).put 1 (.int .i64 0)
 obtain ⟨z0, z1⟩ := Kz.two
 go_wp2_with fail
 exact bodyPost_ret (v := .tuple #[.agg #[.int .i64 0, .int .i64 0], .int .i64 1]) (by simp [results, Tryz.results112, go_sem, z0, z1]) rfl ⟨rfl, (hb.setCell (p := ⟨w.heap.size, 0, none⟩) hl _).setCell (p := ⟨w.heap.size, 1, none⟩) hl _⟩
theorem parseP_n_a2 (s W Q : ByteArray) (w : World) (hs : s.size ≤ 400) (hw : W.size ≤ 400) (hq100 : Q.size ≤ 400) (h0 : 0 < s.size) (hc : ¬ (s[0].toNat : Int) = 43) (hd : ¬ (s[0].toNat : Int) = 45) (h9 : 9 < W.size) (b : Bool)
  (hcut : ∀ w, Calls Tryz.prog 169 #[.string s, .string ⟨#[46]⟩] w fun e w' => e = .returned (.tuple #[.string W, .string Q, .bool b]) ∧ Below w.heap.size w w')
  (hW : ∀ w, Calls Tryz.prog 170 #[.string W] w fun e w' => e = .returned (.int .i64 W.size) ∧ w = w') :
  Calls Tryz.prog 112 #[.string s] w fun e w' => e = .returned (.tuple #[.agg #[.int .i64 0, .int .i64 0], .int .i64 1]) ∧ Below w.heap.size w w' := by
 have hem := emp_no s h0
 have hc' : ((s[0].toNat : Int) == 43) = false := by simpa using hc
 have hd' : ((s[0].toNat : Int) == 45) = false := by simpa using hd
 have f1 : decide (9 < W.size) = true := by simpa using h9
 have KR := Known.made w 50 #[.int .i64 0, .int .i64 0]
 have hb := below_new0 w (.cells #[.int .i64 0, .int .i64 0] 50)
 have hl : w.heap.size ≤ w.heap.size := Nat.le_refl _
 go_enter Tryz.func112, Tryz.ntmps112
 go_wp2_with fail
 refine (hcut _).mono ?_
 rintro e w1 ⟨rfl, hb1⟩
 replace hb := hb.then_ hb1
 replace KR := KR.on hb1
 clear hcut
 go_wp2_with fail
 refine (hW _).mono ?_
 rintro e w2 ⟨rfl, rfl⟩
 have q0 := KR.free 0
 have q1 := KR.free 1
 obtain ⟨r0, r1⟩ := KR.two
 have Kz : Known _ _ _ #[.int .i64 0, .int .i64 0] := (KR.put 0 (.int .i64 0)).put 1 (.int .i64 0)
 obtain ⟨z0, z1⟩ := Kz.two
 go_wp2_with fail
 exact bodyPost_ret (v := .tuple #[.agg #[.int .i64 0, .int .i64 0], .int .i64 1]) (by simp [results, Tryz.results112, go_sem, z0, z1]) rfl ⟨rfl, (hb.setCell (p := ⟨w.heap.size, 0, none⟩) hl _).setCell (p := ⟨w.heap.size, 1, none⟩) hl _⟩
theorem parseP_n_a4 (s W Q : ByteArray) (w : World) (hs : s.size ≤ 400) (hw : W.size ≤ 400) (hq100 : Q.size ≤ 400) (h0 : 0 < s.size) (hc : ¬ (s[0].toNat : Int) = 43) (hd : ¬ (s[0].toNat : Int) = 45) (h9 : W.size ≤ 9) (h1 : 0 < W.size) (hq9 : Q.size ≤ 9)
  (hcut : ∀ w, Calls Tryz.prog 169 #[.string s, .string ⟨#[46]⟩] w fun e w' => e = .returned (.tuple #[.string W, .string Q, .bool false]) ∧ Below w.heap.size w w')
  (hW : ∀ w, Calls Tryz.prog 170 #[.string W] w fun e w' => e = .returned (.int .i64 W.size) ∧ w = w') (v P : Int)
  (hA : ∀ w, Calls Tryz.prog 66 #[.string (⟨#[48]⟩ ++ W ++ Q)] w fun e w' => e = .returned (.tuple #[.int .i64 v, .nilIface]) ∧ Below w.heap.size w w')
  (hP : ∀ w, Calls Tryz.prog 57 #[.int .i64 Q.size] w fun e w' => e = .returned (.int .i64 P) ∧ w = w')
  (v0 : 0 ≤ v) (v1 : v ≤ 1000000000000000000) (P0 : 1 ≤ P) (P1 : P ≤ 1000000000) :
  Calls Tryz.prog 112 #[.string s] w fun e w' => e = .returned (.tuple #[.agg #[.int .i64 (Num.redN v P), .int .i64 (Num.redD v P)], .int .i64 (Num.redE v P)]) ∧ Below w.heap.size w w' := by
 have hem := emp_no s h0
 have hc' : ((s[0].toNat : Int) == 43) = false := by simpa using hc
 have hd' : ((s[0].toNat : Int) == 45) = false := by simpa using hd
 have f1 := emp_no W h1
 have f2 : decide (9 < W.size) = false := by simp; omega
 have KR := Known.made w 50 #[.int .i64 0, .int .i64 0]
 have hb := below_new0 w (.cells #[.int .i64 0, .int .i64 0] 50)
 have hl : w.heap.size ≤ w.heap.size := Nat.le_refl _
 go_enter Tryz.func112, Tryz.ntmps112
 go_wp2_with fail
 refine (hcut _).mono ?_
 rintro e w1 ⟨rfl, hb1⟩
 replace hb := hb.then_ hb1
 replace KR := KR.on hb1
 clear hcut
 go_wp2_with fail
 refine (hW _).mono ?_
 rintro e w2 ⟨rfl, rfl⟩
 go_wp2_with fail
 refine (hA _).mono ?_
 rintro e w3 ⟨rfl, hb3⟩
 replace hb := hb.then_ hb3
 replace KR := KR.on hb3
 clear hA
 go_wp2_with fail
 refine (hP _).mono ?_
 rintro e w4 ⟨rfl, rfl⟩
 clear hP
 go_wp2_with fail
 refine (reduce_any v P _ (by omega) (by omega) (by omega) (by omega) (by omega)).mono ?_
 rintro e w5 ⟨rfl, hb5⟩
 replace hb := hb.then_ hb5
 replace KR := KR.on hb5
 have q0 := KR.free 0
 have q1 := KR.free 1
 obtain ⟨r0, r1⟩ := KR.two
 have Kz : Known _ _ _ #[.int .i64 (Num.redN v P), .int .i64 (Num.redD v P)] := (KR.put 0 (.int .i64 (Num.redN v P))).put 1 (.int .i64 (Num.redD v P))
 obtain ⟨z0, z1⟩ := Kz.two
 go_wp2_with fail
 exact bodyPost_ret (v := .tuple #[.agg #[.int .i64 (Num.redN v P), .int .i64 (Num.redD v P)], .int .i64 (Num.redE v P)]) (by simp [results, Tryz.results112, go_sem, z0, z1]) rfl ⟨rfl, (hb.setCell (p := ⟨w.heap.size, 0, none⟩) hl _).setCell (p := ⟨w.heap.size, 1, none⟩) hl _⟩
theorem parseP_n_a7 (s W Q : ByteArray) (w : World) (hs : s.size ≤ 400) (hw : W.size ≤ 400) (hq100 : Q.size ≤ 400) (h0 : 0 < s.size) (hc : ¬ (s[0].toNat : Int) = 43) (hd : ¬ (s[0].toNat : Int) = 45) (h9 : W.size ≤ 9) (hq : Q.size = 0)
  (hcut : ∀ w, Calls Tryz.prog 169 #[.string s, .string ⟨#[46]⟩] w fun e w' => e = .returned (.tuple #[.string W, .string Q, .bool true]) ∧ Below w.heap.size w w')
  (hW : ∀ w, Calls Tryz.prog 170 #[.string W] w fun e w' => e = .returned (.int .i64 W.size) ∧ w = w') :
  Calls Tryz.prog 112 #[.string s] w fun e w' => e = .returned (.tuple #[.agg #[.int .i64 0, .int .i64 0], .int .i64 1]) ∧ Below w.heap.size w w' := by
 have hem := emp_no s h0
 have hc' : ((s[0].toNat : Int) == 43) = false := by simpa using hc
 have hd' : ((s[0].toNat : Int) == 45) = false := by simpa using hd
 have f1 := emp_yes Q hq
 have f2 : decide (9 < W.size) = false := by simp; omega
 have KR := Known.made w 50 #[.int .i64 0, .int .i64 0]
 have hb := below_new0 w (.cells #[.int .i64 0, .int .i64 0] 50)
 have hl : w.heap.size ≤ w.heap.size := Nat.le_refl _
 go_enter Tryz.func112, Tryz.ntmps112
 go_wp2_with fail
 refine (hcut _).mono ?_
 rintro e w1 ⟨rfl, hb1⟩
 replace hb := hb.then_ hb1
 replace KR := KR.on hb1
 clear hcut
 go_wp2_with fail
 refine (hW _).mono ?_
 rintro e w2 ⟨rfl, rfl⟩
 have q0 := KR.free 0
 have q1 := KR.free 1
 obtain ⟨r0, r1⟩ := KR.two
 have Kz : Known _ _ _ #[.int .i64 0, .int .i64 0] := (KR.put 0 (.int .i64 0)).put 1 (.int .i64 0)
 obtain ⟨z0, z1⟩ := Kz.two
 go_wp2_with fail
 exact bodyPost_ret (v := .tuple #[.agg #[.int .i64 0, .int .i64 0], .int .i64 1]) (by simp [results, Tryz.results112, go_sem, z0, z1]) rfl ⟨rfl, (hb.setCell (p := ⟨w.heap.size, 0, none⟩) hl _).setCell (p := ⟨w.heap.size, 1, none⟩) hl _⟩
theorem parseP_n_a8 (s W Q : ByteArray) (w : World) (hs : s.size ≤ 400) (hw : W.size ≤ 400) (hq100 : Q.size ≤ 400) (h0 : 0 < s.size) (hc : ¬ (s[0].toNat : Int) = 43) (hd : ¬ (s[0].toNat : Int) = 45) (h9 : W.size ≤ 9) (hq1 : 0 < Q.size) (dq : Nat) (hdq : dq < Q.size)
  (hcut : ∀ w, Calls Tryz.prog 169 #[.string s, .string ⟨#[46]⟩] w fun e w' => e = .returned (.tuple #[.string W, .string Q, .bool true]) ∧ Below w.heap.size w w')
  (hW : ∀ w, Calls Tryz.prog 170 #[.string W] w fun e w' => e = .returned (.int .i64 W.size) ∧ w = w')
  (hQ : ∀ w, Calls Tryz.prog 170 #[.string Q] w fun e w' => e = .returned (.int .i64 dq) ∧ w = w') :
  Calls Tryz.prog 112 #[.string s] w fun e w' => e = .returned (.tuple #[.agg #[.int .i64 0, .int .i64 0], .int .i64 1]) ∧ Below w.heap.size w w' := by
 have hem := emp_no s h0
 have hc' : ((s[0].toNat : Int) == 43) = false := by simpa using hc
 have hd' : ((s[0].toNat : Int) == 45) = false := by simpa using hd
 have f1 := emp_no Q hq1
 have f2 : decide (9 < W.size) = false := by simp; omega
 have f3 : decide (dq < Q.size) = true := by simpa using hdq
 have KR := Known.made w 50 #[.int .i64 0, .int .i64 0]
 have hb := below_new0 w (.cells #[.int .i64 0, .int .i64 0] 50)
 have hl : w.heap.size ≤ w.heap.size := Nat.le_refl _
 go_enter Tryz.func112, Tryz.ntmps112
 go_wp2_with fail
 refine (hcut _).mono ?_
 rintro e w1 ⟨rfl, hb1⟩
 replace hb := hb.then_ hb1
 replace KR := KR.on hb1
 clear hcut
 go_wp2_with fail
 refine (hW _).mono ?_
 rintro e w2 ⟨rfl, rfl⟩
 go_wp2_with fail
 refine (hQ _).mono ?_
 rintro e w2 ⟨rfl, rfl⟩
 have q0 := KR.free 0
 have q1 := KR.free 1
 obtain ⟨r0, r1⟩ := KR.two
 have Kz : Known _ _ _ #[.int .i64 0, .int .i64 0] := (KR.put 0 (.int .i64 0)).put 1 (.int .i64 0)
 obtain ⟨z0, z1⟩ := Kz.two
 go_wp2_with fail
 exact bodyPost_ret (v := .tuple #[.agg #[.int .i64 0, .int .i64 0], .int .i64 1]) (by simp [results, Tryz.results112, go_sem, z0, z1]) rfl ⟨rfl, (hb.setCell (p := ⟨w.heap.size, 0, none⟩) hl _).setCell (p := ⟨w.heap.size, 1, none⟩) hl _⟩
theorem parseP_n_a9 (s W Q : ByteArray) (w : World) (hs : s.size ≤ 400) (hw : W.size ≤ 400) (hq100 : Q.size ≤ 400) (h0 : 0 < s.size) (hc : ¬ (s[0].toNat : Int) = 43) (hd : ¬ (s[0].toNat : Int) = 45) (h9 : W.size ≤ 9) (hq9 : 9 < Q.size)
  (hcut : ∀ w, Calls Tryz.prog 169 #[.string s, .string ⟨#[46]⟩] w fun e w' => e = .returned (.tuple #[.string W, .string Q, .bool true]) ∧ Below w.heap.size w w')
  (hW : ∀ w, Calls Tryz.prog 170 #[.string W] w fun e w' => e = .returned (.int .i64 W.size) ∧ w = w')
  (hQ : ∀ w, Calls Tryz.prog 170 #[.string Q] w fun e w' => e = .returned (.int .i64 Q.size) ∧ w = w') :
  Calls Tryz.prog 112 #[.string s] w fun e w' => e = .returned (.tuple #[.agg #[.int .i64 0, .int .i64 0], .int .i64 1]) ∧ Below w.heap.size w w' := by
 have hem := emp_no s h0
 have hc' : ((s[0].toNat : Int) == 43) = false := by simpa using hc
 have hd' : ((s[0].toNat : Int) == 45) = false := by simpa using hd
 have f1 := emp_no Q (by omega)
 have f2 : decide (9 < W.size) = false := by simp; omega
 have f3 : decide (9 < Q.size) = true := by simpa using hq9
 have KR := Known.made w 50 #[.int .i64 0, .int .i64 0]
 have hb := below_new0 w (.cells #[.int .i64 0, .int .i64 0] 50)
 have hl : w.heap.size ≤ w.heap.size := Nat.le_refl _
 go_enter Tryz.func112, Tryz.ntmps112
 go_wp2_with fail
 refine (hcut _).mono ?_
 rintro e w1 ⟨rfl, hb1⟩
 replace hb := hb.then_ hb1
 replace KR := KR.on hb1
 clear hcut
 go_wp2_with fail
 refine (hW _).mono ?_
 rintro e w2 ⟨rfl, rfl⟩
 go_wp2_with fail
 refine (hQ _).mono ?_
 rintro e w2 ⟨rfl, rfl⟩
 have q0 := KR.free 0
 have q1 := KR.free 1
 obtain ⟨r0, r1⟩ := KR.two
 have Kz : Known _ _ _ #[.int .i64 0, .int .i64 0] := (KR.put 0 (.int .i64 0)).put 1 (.int .i64 0)
 obtain ⟨z0, z1⟩ := Kz.two
 go_wp2_with fail
 exact bodyPost_ret (v := .tuple #[.agg #[.int .i64 0, .int .i64 0], .int .i64 1]) (by simp [results, Tryz.results112, go_sem, z0, z1]) rfl ⟨rfl, (hb.setCell (p := ⟨w.heap.size, 0, none⟩) hl _).setCell (p := ⟨w.heap.size, 1, none⟩) hl _⟩
theorem parseP_n_a10 (s W Q : ByteArray) (w : World) (hs : s.size ≤ 400) (hw : W.size ≤ 400) (hq100 : Q.size ≤ 400) (h0 : 0 < s.size) (hc : ¬ (s[0].toNat : Int) = 43) (hd : ¬ (s[0].toNat : Int) = 45) (h9 : W.size ≤ 9) (hq1 : 0 < Q.size) (hq9 : Q.size ≤ 9)
  (hcut : ∀ w, Calls Tryz.prog 169 #[.string s, .string ⟨#[46]⟩] w fun e w' => e = .returned (.tuple #[.string W, .string Q, .bool true]) ∧ Below w.heap.size w w')
  (hW : ∀ w, Calls Tryz.prog 170 #[.string W] w fun e w' => e = .returned (.int .i64 W.size) ∧ w = w')
  (hQ : ∀ w, Calls Tryz.prog 170 #[.string Q] w fun e w' => e = .returned (.int .i64 Q.size) ∧ w = w') (v P : Int)
  (hA : ∀ w, Calls Tryz.prog 66 #[.string (⟨#[48]⟩ ++ W ++ Q)] w fun e w' => e = .returned (.tuple #[.int .i64 v, .nilIface]) ∧ Below w.heap.size w w')
  (hP : ∀ w, Calls Tryz.prog 57 #[.int .i64 Q.size] w fun e w' => e = .returned (.int .i64 P) ∧ w = w')
  (v0 : 0 ≤ v) (v1 : v ≤ 1000000000000000000) (P0 : 1 ≤ P) (P1 : P ≤ 1000000000) :
  Calls Tryz.prog 112 #[.string s] w fun e w' => e = .returned (.tuple #[.agg #[.int .i64 (Num.redN v P), .int .i64 (Num.redD v P)], .int .i64 (Num.redE v P)]) ∧ Below w.heap.size w w' := by
 have hem := emp_no s h0
 have hc' : ((s[0].toNat : Int) == 43) = false := by simpa using hc
 have hd' : ((s[0].toNat : Int) == 45) = false := by simpa using hd
 have f1 := emp_no Q hq1
 have f2 : decide (9 < W.size) = false := by simp; omega
 have f3 : decide (9 < Q.size) = false := by simp; omega
 have KR := Known.made w 50 #[.int .i64 0, .int .i64 0]
 have hb := below_new0 w (.cells #[.int .i64 0, .int .i64 0] 50)
 have hl : w.heap.size ≤ w.heap.size := Nat.le_refl _
 go_enter Tryz.func112, Tryz.ntmps112
 go_wp2_with fail
 refine (hcut _).mono ?_
 rintro e w1 ⟨rfl, hb1⟩
 replace hb := hb.then_ hb1
 replace KR := KR.on hb1
 clear hcut
 go_wp2_with fail
 refine (hW _).mono ?_
 rintro e w2 ⟨rfl, rfl⟩
 go_wp2_with fail
 refine (hQ _).mono ?_
 rintro e w2 ⟨rfl, rfl⟩
 go_wp2_with fail
 refine (hA _).mono ?_
 rintro e w3 ⟨rfl, hb3⟩
 replace hb := hb.then_ hb3
 replace KR := KR.on hb3
 clear hA
 go_wp2_with fail
 refine (hP _).mono ?_
 rintro e w4 ⟨rfl, rfl⟩
 clear hP
 go_wp2_with fail
 refine (reduce_any v P _ (by omega) (by omega) (by omega) (by omega) (by omega)).mono ?_
 rintro e w5 ⟨rfl, hb5⟩
 replace hb := hb.then_ hb5
 replace KR := KR.on hb5
 have q0 := KR.free 0
 have q1 := KR.free 1
 obtain ⟨r0, r1⟩ := KR.two
 have Kz : Known _ _ _ #[.int .i64 (Num.redN v P), .int .i64 (Num.redD v P)] := (KR.put 0 (.int .i64 (Num.redN v P))).put 1 (.int .i64 (Num.redD v P))
 obtain ⟨z0, z1⟩ := Kz.two
 go_wp2_with fail
 exact bodyPost_ret (v := .tuple #[.agg #[.int .i64 (Num.redN v P), .int .i64 (Num.redD v P)], .int .i64 (Num.redE v P)]) (by simp [results, Tryz.results112, go_sem, z0, z1]) rfl ⟨rfl, (hb.setCell (p := ⟨w.heap.size, 0, none⟩) hl _).setCell (p := ⟨w.heap.size, 1, none⟩) hl _⟩
theorem parseP_p_a1 (s R W Q : ByteArray) (w : World) (hs : s.size ≤ 400) (hw : W.size ≤ 400) (hq100 : Q.size ≤ 400) (h0 : 0 < s.size) (hc : (s[0].toNat : Int) = 43) (hR : s.extract 1 s.size = R) (dw : Nat) (hdw : dw < W.size) (b : Bool)
  (hcut : ∀ w, Calls Tryz.prog 169 #[.string R, .string ⟨#[46]⟩] w fun e w' => e = .returned (.tuple #[.string W, .string Q, .bool b]) ∧ Below w.heap.size w w')
  (hW : ∀ w, Calls Tryz.prog 170 #[.string W] w fun e w' => e = .returned (.int .i64 dw) ∧ w = w') :
  Calls Tryz.prog 112 #[.string s] w fun e w' => e = .returned (.tuple #[.agg #[.int .i64 0, .int .i64 0], .int .i64 1]) ∧ Below w.heap.size w w' := by
 have hem := emp_no s h0
 have f1 : decide (dw < W.size) = true := by simpa using hdw
 have KR := Known.made w 50 #[.int .i64 0, .int .i64 0]
 have hb := below_new0 w (.cells #[.int .i64 0, .int .i64 0] 50)
 have hl : w.heap.size ≤ w.heap.size := Nat.le_refl _
 go_enter Tryz.func112, Tryz.ntmps112
 go_wp2_with fail
 go_region
 all_goals (try go_wp2_with fail)
 replace hb := hb.drew
 replace KR := KR.on (Below.refl _ _).drew
 refine (hcut _).mono ?_
 rintro e w1 ⟨rfl, hb1⟩
 replace hb := hb.then_ hb1
 replace KR := KR.on hb1
 clear hcut
 go_wp2_with fail
 refine (hW _).mono ?_
 rintro e w2 ⟨rfl, rfl⟩
 have q0 := KR.free 0
 have q1 := KR.free 1
 obtain ⟨r0, r1⟩ := KR.two
 have Kz : Known _ _ _ #[.int .i64 0, .int .i64 0] := (KR.put 0 (.int .i64 0)).put 1 (.int .i64 0)
 obtain ⟨z0, z1⟩ := Kz.two
 go_wp2_with fail
 exact bodyPost_ret (v := .tuple #[.agg #[.int .i64 0, .int .i64 0], .int .i64 1]) (by simp [results, Tryz.results112, go_sem, z0, z1]) rfl ⟨rfl, (hb.setCell (p := ⟨w.heap.size, 0, none⟩) hl _).setCell (p := ⟨w.heap.size, 1, none⟩) hl _⟩
theorem parseP_p_a2 (s R W Q : ByteArray) (w : World) (hs : s.size ≤ 400) (hw : W.size ≤ 400) (hq100 : Q.size ≤ 400) (h0 : 0 < s.size) (hc : (s[0].toNat : Int) = 43) (hR : s.extract 1 s.size = R) (h9 : 9 < W.size) (b : Bool)
  (hcut : ∀ w, Calls Tryz.prog 169 #[.string R, .string ⟨#[46]⟩] w fun e w' => e = .returned (.tuple #[.string W, .string Q, .bool b]) ∧ Below w.heap.size w w')
  (hW : ∀ w, Calls Tryz.prog 170 #[.string W] w fun e w' => e = .returned (.int .i64 W.size) ∧ w = w') :
  Calls Tryz.prog 112 #[.string s] w fun e w' => e = .returned (.tuple #[.agg #[.int .i64 0, .int .i64 0], .int .i64 1]) ∧ Below w.heap.size w w' := by
 have hem := emp_no s h0
 have f1 : decide (9 < W.size) = true := by simpa using h9
 have KR := Known.made w 50 #[.int .i64 0, .int .i64 0]
 have hb := below_new0 w (.cells #[.int .i64 0, .int .i64 0] 50)
 have hl : w.heap.size ≤ w.heap.size := Nat.le_refl _
 go_enter Tryz.func112, Tryz.ntmps112
 go_wp2_with fail
 go_region
 all_goals (try go_wp2_with fail)
 replace hb := hb.drew
 replace KR := KR.on (Below.refl _ _).drew
 refine (hcut _).mono ?_
 rintro e w1 ⟨rfl, hb1⟩
 replace hb := hb.then_ hb1
 replace KR := KR.on hb1
 clear hcut
 go_wp2_with fail
 refine (hW _).mono ?_
 rintro e w2 ⟨rfl, rfl⟩
 have q0 := KR.free 0
 have q1 := KR.free 1
 obtain ⟨r0, r1⟩ := KR.two
 have Kz : Known _ _ _ #[.int .i64 0, .int .i64 0] := (KR.put 0 (.int .i64 0)).put 1 (.int .i64 0)
 obtain ⟨z0, z1⟩ := Kz.two
 go_wp2_with fail
 exact bodyPost_ret (v := .tuple #[.agg #[.int .i64 0, .int .i64 0], .int .i64 1]) (by simp [results, Tryz.results112, go_sem, z0, z1]) rfl ⟨rfl, (hb.setCell (p := ⟨w.heap.size, 0, none⟩) hl _).setCell (p := ⟨w.heap.size, 1, none⟩) hl _⟩
theorem parseP_p_a3 (s R W Q : ByteArray) (w : World) (hs : s.size ≤ 400) (hw : W.size ≤ 400) (hq100 : Q.size ≤ 400) (h0 : 0 < s.size) (hc : (s[0].toNat : Int) = 43) (hR : s.extract 1 s.size = R) (h9 : W.size = 0)
  (hcut : ∀ w, Calls Tryz.prog 169 #[.string R, .string ⟨#[46]⟩] w fun e w' => e = .returned (.tuple #[.string W, .string Q, .bool false]) ∧ Below w.heap.size w w')
  (hW : ∀ w, Calls Tryz.prog 170 #[.string W] w fun e w' => e = .returned (.int .i64 W.size) ∧ w = w') :
  Calls Tryz.prog 112 #[.string s] w fun e w' => e = .returned (.tuple #[.agg #[.int .i64 0, .int .i64 0], .int .i64 1]) ∧ Below w.heap.size w w' := by
 have hem := emp_no s h0
 have f1 := emp_yes W h9
 have f2 : decide (9 < W.size) = false := by simp; omega
 have KR := Known.made w 50 #[.int .i64 0, .int .i64 0]
 have hb := below_new0 w (.cells #[.int .i64 0, .int .i64 0] 50)
 have hl : w.heap.size ≤ w.heap.size := Nat.le_refl _
 go_enter Tryz.func112, Tryz.ntmps112
 go_wp2_with fail
 go_region
 all_goals (try go_wp2_with fail)
 replace hb := hb.drew
 replace KR := KR.on (Below.refl _ _).drew
 refine (hcut _).mono ?_
 rintro e w1 ⟨rfl, hb1⟩
 replace hb := hb.then_ hb1
 replace KR := KR.on hb1
 clear hcut
 go_wp2_with fail
 refine (hW _).mono ?_
 rintro e w2 ⟨rfl, rfl⟩
 have q0 := KR.free 0
 have q1 := KR.free 1
 obtain ⟨r0, r1⟩ := KR.two
 have Kz : Known _ _ _ #[.int .i64 0, .int .i64 0] := (KR.put 0 (.int .i64 0)).put 1 (.int .i64 0)
 obtain ⟨z0, z1⟩ := Kz.two
 go_wp2_with fail
 exact bodyPost_ret (v := .tuple #[.agg #[.int .i64 0, .int .i64 0], .int .i64 1]) (by simp [results, Tryz.results112, go_sem, z0, z1]) rfl ⟨rfl, (hb.setCell (p := ⟨w.heap.size, 0, none⟩) hl _).setCell (p := ⟨w.heap.size, 1, none⟩) hl _⟩
theorem parseP_p_a4 (s R W Q : ByteArray) (w : World) (hs : s.size ≤ 400) (hw : W.size ≤ 400) (hq100 : Q.size ≤ 400) (h0 : 0 < s.size) (hc : (s[0].toNat : Int) = 43) (hR : s.extract 1 s.size = R) (h9 : W.size ≤ 9) (h1 : 0 < W.size) (hq9 : Q.size ≤ 9)
  (hcut : ∀ w, Calls Tryz.prog 169 #[.string R, .string ⟨#[46]⟩] w fun e w' => e = .returned (.tuple #[.string W, .string Q, .bool false]) ∧ Below w.heap.size w w')
  (hW : ∀ w, Calls Tryz.prog 170 #[.string W] w fun e w' => e = .returned (.int .i64 W.size) ∧ w = w') (v P : Int)
  (hA : ∀ w, Calls Tryz.prog 66 #[.string (⟨#[48]⟩ ++ W ++ Q)] w fun e w' => e = .returned (.tuple #[.int .i64 v, .nilIface]) ∧ Below w.heap.size w w')
  (hP : ∀ w, Calls Tryz.prog 57 #[.int .i64 Q.size] w fun e w' => e = .returned (.int .i64 P) ∧ w = w')
  (v0 : 0 ≤ v) (v1 : v ≤ 1000000000000000000) (P0 : 1 ≤ P) (P1 : P ≤ 1000000000) :
  Calls Tryz.prog 112 #[.string s] w fun e w' => e = .returned (.tuple #[.agg #[.int .i64 (Num.redN v P), .int .i64 (Num.redD v P)], .int .i64 (Num.redE v P)]) ∧ Below w.heap.size w w' := by
 have hem := emp_no s h0
 have f1 := emp_no W h1
 have f2 : decide (9 < W.size) = false := by simp; omega
 have KR := Known.made w 50 #[.int .i64 0, .int .i64 0]
 have hb := below_new0 w (.cells #[.int .i64 0, .int .i64 0] 50)
 have hl : w.heap.size ≤ w.heap.size := Nat.le_refl _
 go_enter Tryz.func112, Tryz.ntmps112
 go_wp2_with fail
 go_region
 all_goals (try go_wp2_with fail)
 replace hb := hb.drew
 replace KR := KR.on (Below.refl _ _).drew
 refine (hcut _).mono ?_
 rintro e w1 ⟨rfl, hb1⟩
 replace hb := hb.then_ hb1
 replace KR := KR.on hb1
 clear hcut
 go_wp2_with fail
 refine (hW _).mono ?_
 rintro e w2 ⟨rfl, rfl⟩
 go_wp2_with fail
 refine (hA _).mono ?_
 rintro e w3 ⟨rfl, hb3⟩
 replace hb := hb.then_ hb3
 replace KR := KR.on hb3
 clear hA
 go_wp2_with fail
 refine (hP _).mono ?_
 rintro e w4 ⟨rfl, rfl⟩
 clear hP
 go_wp2_with fail
 refine (reduce_any v P _ (by omega) (by omega) (by omega) (by omega) (by omega)).mono ?_
 rintro e w5 ⟨rfl, hb5⟩
 replace hb := hb.then_ hb5
 replace KR := KR.on hb5
 have q0 := KR.free 0
 have q1 := KR.free 1
 obtain ⟨r0, r1⟩ := KR.two
 have Kz : Known _ _ _ #[.int .i64 (Num.redN v P), .int .i64 (Num.redD v P)] := (KR.put 0 (.int .i64 (Num.redN v P))).put 1 (.int .i64 (Num.redD v P))
 obtain ⟨z0, z1⟩ := Kz.two
 go_wp2_with fail
 exact bodyPost_ret (v := .tuple #[.agg #[.int .i64 (Num.redN v P), .int .i64 (Num.redD v P)], .int .i64 (Num.redE v P)]) (by simp [results, Tryz.results112, go_sem, z0, z1]) rfl ⟨rfl, (hb.setCell (p := ⟨w.heap.size, 0, none⟩) hl _).setCell (p := ⟨w.heap.size, 1, none⟩) hl _⟩
theorem parseP_p_a7 (s R W Q : ByteArray) (w : World) (hs : s.size ≤ 400) (hw : W.size ≤ 400) (hq100 : Q.size ≤ 400) (h0 : 0 < s.size) (hc : (s[0].toNat : Int) = 43) (hR : s.extract 1 s.size = R) (h9 : W.size ≤ 9) (hq : Q.size = 0)
  (hcut : ∀ w, Calls Tryz.prog 169 #[.string R, .string ⟨#[46]⟩] w fun e w' => e = .returned (.tuple #[.string W, .string Q, .bool true]) ∧ Below w.heap.size w w')
  (hW : ∀ w, Calls Tryz.prog 170 #[.string W] w fun e w' => e = .returned (.int .i64 W.size) ∧ w = w') :
  Calls Tryz.prog 112 #[.string s] w fun e w' => e = .returned (.tuple #[.agg #[.int .i64 0, .int .i64 0], .int .i64 1]) ∧ Below w.heap.size w w' := by
 have hem := emp_no s h0
 have f1 := emp_yes Q hq
 have f2 : decide (9 < W.size) = false := by simp; omega
 have KR := Known.made w 50 #[.int .i64 0, .int .i64 0]
 have hb := below_new0 w (.cells #[.int .i64 0, .int .i64 0] 50)
 have hl : w.heap.size ≤ w.heap.size := Nat.le_refl _
 go_enter Tryz.func112, Tryz.ntmps112
 go_wp2_with fail
 go_region
 all_goals (try go_wp2_with fail)
 replace hb := hb.drew
 replace KR := KR.on (Below.refl _ _).drew
 refine (hcut _).mono ?_
 rintro e w1 ⟨rfl, hb1⟩
 replace hb := hb.then_ hb1
 replace KR := KR.on hb1
 clear hcut
 go_wp2_with fail
 refine (hW _).mono ?_
 rintro e w2 ⟨rfl, rfl⟩
 have q0 := KR.free 0
 have q1 := KR.free 1
 obtain ⟨r0, r1⟩ := KR.two
 have Kz : Known _ _ _ #[.int .i64 0, .int .i64 0] := (KR.put 0 (.int .i64 0)).put 1 (.int .i64 0)
 obtain ⟨z0, z1⟩ := Kz.two
 go_wp2_with fail
 exact bodyPost_ret (v := .tuple #[.agg #[.int .i64 0, .int .i64 0], .int .i64 1]) (by simp [results, Tryz.results112, go_sem, z0, z1]) rfl ⟨rfl, (hb.setCell (p := ⟨w.heap.size, 0, none⟩) hl _).setCell (p := ⟨w.heap.size, 1, none⟩) hl _⟩
theorem parseP_p_a8 (s R W Q : ByteArray) (w : World) (hs : s.size ≤ 400) (hw : W.size ≤ 400) (hq100 : Q.size ≤ 400) (h0 : 0 < s.size) (hc : (s[0].toNat : Int) = 43) (hR : s.extract 1 s.size = R) (h9 : W.size ≤ 9) (hq1 : 0 < Q.size) (dq : Nat) (hdq : dq < Q.size)
  (hcut : ∀ w, Calls Tryz.prog 169 #[.string R, .string ⟨#[46]⟩] w fun e w' => e = .returned (.tuple #[.string W, .string Q, .bool true]) ∧ Below w.heap.size w w')
  (hW : ∀ w, Calls Tryz.prog 170 #[.string W] w fun e w' => e = .returned (.int .i64 W.size) ∧ w = w')
  (hQ : ∀ w, Calls Tryz.prog 170 #[.string Q] w fun e w' => e = .returned (.int .i64 dq) ∧ w = w') :
  Calls Tryz.prog 112 #[.string s] w fun e w' => e = .returned (.tuple #[.agg #[.int .i64 0, .int .i64 0], .int .i64 1]) ∧ Below w.heap.size w w' := by
 have hem := emp_no s h0
 have f1 := emp_no Q hq1
 have f2 : decide (9 < W.size) = false := by simp; omega
 have f3 : decide (dq < Q.size) = true := by simpa using hdq
 have KR := Known.made w 50 #[.int .i64 0, .int .i64 0]
 have hb := below_new0 w (.cells #[.int .i64 0, .int .i64 0] 50)
 have hl : w.heap.size ≤ w.heap.size := Nat.le_refl _
 go_enter Tryz.func112, Tryz.ntmps112
 go_wp2_with fail
 go_region
 all_goals (try go_wp2_with fail)
 replace hb := hb.drew
 replace KR := KR.on (Below.refl _ _).drew
 refine (hcut _).mono ?_
 rintro e w1 ⟨rfl, hb1⟩
 replace hb := hb.then_ hb1
 replace KR := KR.on hb1
 clear hcut
 go_wp2_with fail
 refine (hW _).mono ?_
 rintro e w2 ⟨rfl, rfl⟩
 go_wp2_with fail
 refine (hQ _).mono ?_
 rintro e w2 ⟨rfl, rfl⟩
 have q0 := KR.free 0
 have q1 := KR.free 1
 obtain ⟨r0, r1⟩ := KR.two
 have Kz : Known _ _ _ #[.int .i64 0, .int .i64 0] := (KR.put 0 (.int .i64 0)).put 1 (.int .i64 0)
 obtain ⟨z0, z1⟩ := Kz.two
 go_wp2_with fail
 exact bodyPost_ret (v := .tuple #[.agg #[.int .i64 0, .int .i64 0], .int .i64 1]) (by simp [results, Tryz.results112, go_sem, z0, z1]) rfl ⟨rfl, (hb.setCell (p := ⟨w.heap.size, 0, none⟩) hl _).setCell (p := ⟨w.heap.size, 1, none⟩) hl _⟩
theorem parseP_p_a9 (s R W Q : ByteArray) (w : World) (hs : s.size ≤ 400) (hw : W.size ≤ 400) (hq100 : Q.size ≤ 400) (h0 : 0 < s.size) (hc : (s[0].toNat : Int) = 43) (hR : s.extract 1 s.size = R) (h9 : W.size ≤ 9) (hq9 : 9 < Q.size)
  (hcut : ∀ w, Calls Tryz.prog 169 #[.string R, .string ⟨#[46]⟩] w fun e w' => e = .returned (.tuple #[.string W, .string Q, .bool true]) ∧ Below w.heap.size w w')
  (hW : ∀ w, Calls Tryz.prog 170 #[.string W] w fun e w' => e = .returned (.int .i64 W.size) ∧ w = w')
  (hQ : ∀ w, Calls Tryz.prog 170 #[.string Q] w fun e w' => e = .returned (.int .i64 Q.size) ∧ w = w') :
  Calls Tryz.prog 112 #[.string s] w fun e w' => e = .returned (.tuple #[.agg #[.int .i64 0, .int .i64 0], .int .i64 1]) ∧ Below w.heap.size w w' := by
 have hem := emp_no s h0
 have f1 := emp_no Q (by omega)
 have f2 : decide (9 < W.size) = false := by simp; omega
 have f3 : decide (9 < Q.size) = true := by simpa using hq9
 have KR := Known.made w 50 #[.int .i64 0, .int .i64 0]
 have hb := below_new0 w (.cells #[.int .i64 0, .int .i64 0] 50)
 have hl : w.heap.size ≤ w.heap.size := Nat.le_refl _
 go_enter Tryz.func112, Tryz.ntmps112
 go_wp2_with fail
 go_region
 all_goals (try go_wp2_with fail)
 replace hb := hb.drew
 replace KR := KR.on (Below.refl _ _).drew
 refine (hcut _).mono ?_
 rintro e w1 ⟨rfl, hb1⟩
 replace hb := hb.then_ hb1
 replace KR := KR.on hb1
 clear hcut
 go_wp2_with fail
 refine (hW _).mono ?_
 rintro e w2 ⟨rfl, rfl⟩
 go_wp2_with fail
 refine (hQ _).mono ?_
 rintro e w2 ⟨rfl, rfl⟩
 have q0 := KR.free 0
 have q1 := KR.free 1
 obtain ⟨r0, r1⟩ := KR.two
 have Kz : Known _ _ _ #[.int .i64 0, .int .i64 0] := (KR.put 0 (.int .i64 0)).put 1 (.int .i64 0)
 obtain ⟨z0, z1⟩ := Kz.two
 go_wp2_with fail
 exact bodyPost_ret (v := .tuple #[.agg #[.int .i64 0, .int .i64 0], .int .i64 1]) (by simp [results, Tryz.results112, go_sem, z0, z1]) rfl ⟨rfl, (hb.setCell (p := ⟨w.heap.size, 0, none⟩) hl _).setCell (p := ⟨w.heap.size, 1, none⟩) hl _⟩
theorem parseP_p_a10 (s R W Q : ByteArray) (w : World) (hs : s.size ≤ 400) (hw : W.size ≤ 400) (hq100 : Q.size ≤ 400) (h0 : 0 < s.size) (hc : (s[0].toNat : Int) = 43) (hR : s.extract 1 s.size = R) (h9 : W.size ≤ 9) (hq1 : 0 < Q.size) (hq9 : Q.size ≤ 9)
  (hcut : ∀ w, Calls Tryz.prog 169 #[.string R, .string ⟨#[46]⟩] w fun e w' => e = .returned (.tuple #[.string W, .string Q, .bool true]) ∧ Below w.heap.size w w')
  (hW : ∀ w, Calls Tryz.prog 170 #[.string W] w fun e w' => e = .returned (.int .i64 W.size) ∧ w = w')
  (hQ : ∀ w, Calls Tryz.prog 170 #[.string Q] w fun e w' => e = .returned (.int .i64 Q.size) ∧ w = w') (v P : Int)
  (hA : ∀ w, Calls Tryz.prog 66 #[.string (⟨#[48]⟩ ++ W ++ Q)] w fun e w' => e = .returned (.tuple #[.int .i64 v, .nilIface]) ∧ Below w.heap.size w w')
  (hP : ∀ w, Calls Tryz.prog 57 #[.int .i64 Q.size] w fun e w' => e = .returned (.int .i64 P) ∧ w = w')
  (v0 : 0 ≤ v) (v1 : v ≤ 1000000000000000000) (P0 : 1 ≤ P) (P1 : P ≤ 1000000000) :
  Calls Tryz.prog 112 #[.string s] w fun e w' => e = .returned (.tuple #[.agg #[.int .i64 (Num.redN v P), .int .i64 (Num.redD v P)], .int .i64 (Num.redE v P)]) ∧ Below w.heap.size w w' := by
 have hem := emp_no s h0
 have f1 := emp_no Q hq1
 have f2 : decide (9 < W.size) = false := by simp; omega
 have f3 : decide (9 < Q.size) = false := by simp; omega
 have KR := Known.made w 50 #[.int .i64 0, .int .i64 0]
 have hb := below_new0 w (.cells #[.int .i64 0, .int .i64 0] 50)
 have hl : w.heap.size ≤ w.heap.size := Nat.le_refl _
 go_enter Tryz.func112, Tryz.ntmps112
 go_wp2_with fail
 go_region
 all_goals (try go_wp2_with fail)
 replace hb := hb.drew
 replace KR := KR.on (Below.refl _ _).drew
 refine (hcut _).mono ?_
 rintro e w1 ⟨rfl, hb1⟩
 replace hb := hb.then_ hb1
 replace KR := KR.on hb1
 clear hcut
 go_wp2_with fail
 refine (hW _).mono ?_
 rintro e w2 ⟨rfl, rfl⟩
 go_wp2_with fail
 refine (hQ _).mono ?_
 rintro e w2 ⟨rfl, rfl⟩
 go_wp2_with fail
 refine (hA _).mono ?_
 rintro e w3 ⟨rfl, hb3⟩
 replace hb := hb.then_ hb3
 replace KR := KR.on hb3
 clear hA
 go_wp2_with fail
 refine (hP _).mono ?_
 rintro e w4 ⟨rfl, rfl⟩
 clear hP
 go_wp2_with fail
 refine (reduce_any v P _ (by omega) (by omega) (by omega) (by omega) (by omega)).mono ?_
 rintro e w5 ⟨rfl, hb5⟩
 replace hb := hb.then_ hb5
 replace KR := KR.on hb5
 have q0 := KR.free 0
 have q1 := KR.free 1
 obtain ⟨r0, r1⟩ := KR.two
 have Kz : Known _ _ _ #[.int .i64 (Num.redN v P), .int .i64 (Num.redD v P)] := (KR.put 0 (.int .i64 (Num.redN v P))).put 1 (.int .i64 (Num.redD v P))
 obtain ⟨z0, z1⟩ := Kz.two
 go_wp2_with fail
 exact bodyPost_ret (v := .tuple #[.agg #[.int .i64 (Num.redN v P), .int .i64 (Num.redD v P)], .int .i64 (Num.redE v P)]) (by simp [results, Tryz.results112, go_sem, z0, z1]) rfl ⟨rfl, (hb.setCell (p := ⟨w.heap.size, 0, none⟩) hl _).setCell (p := ⟨w.heap.size, 1, none⟩) hl _⟩
theorem parseP_m_a1 (s R W Q : ByteArray) (w : World) (hs : s.size ≤ 400) (hw : W.size ≤ 400) (hq100 : Q.size ≤ 400) (h0 : 0 < s.size) (hc : (s[0].toNat : Int) = 45) (hR : s.extract 1 s.size = R) (dw : Nat) (hdw : dw < W.size) (b : Bool)
  (hcut : ∀ w, Calls Tryz.prog 169 #[.string R, .string ⟨#[46]⟩] w fun e w' => e = .returned (.tuple #[.string W, .string Q, .bool b]) ∧ Below w.heap.size w w')
  (hW : ∀ w, Calls Tryz.prog 170 #[.string W] w fun e w' => e = .returned (.int .i64 dw) ∧ w = w') :
  Calls Tryz.prog 112 #[.string s] w fun e w' => e = .returned (.tuple #[.agg #[.int .i64 0, .int .i64 0], .int .i64 1]) ∧ Below w.heap.size w w' := by
 have hem := emp_no s h0
 have f1 : decide (dw < W.size) = true := by simpa using hdw
 have KR := Known.made w 50 #[.int .i64 0, .int .i64 0]
 have hb := below_new0 w (.cells #[.int .i64 0, .int .i64 0] 50)
 have hl : w.heap.size ≤ w.heap.size := Nat.le_refl _
 go_enter Tryz.func112, Tryz.ntmps112
 go_wp2_with fail
 go_region
 all_goals (try go_wp2_with fail)
 replace hb := hb.drew
 replace KR := KR.on (Below.refl _ _).drew
 refine (hcut _).mono ?_
 rintro e w1 ⟨rfl, hb1⟩
 replace hb := hb.then_ hb1
 replace KR := KR.on hb1
 clear hcut
 go_wp2_with fail
 refine (hW _).mono ?_
 rintro e w2 ⟨rfl, rfl⟩
 have q0 := KR.free 0
 have q1 := KR.free 1
 obtain ⟨r0, r1⟩ := KR.two
 have Kz : Known _ _ _ #[.int .i64 0, .int .i64 0] := (KR.put 0 (.int .i64 0)).put 1 (.int .i64 0)
 obtain ⟨z0, z1⟩ := Kz.two
 go_wp2_with fail
 exact bodyPost_ret (v := .tuple #[.agg #[.int .i64 0, .int .i64 0], .int .i64 1]) (by simp [results, Tryz.results112, go_sem, z0, z1]) rfl ⟨rfl, (hb.setCell (p := ⟨w.heap.size, 0, none⟩) hl _).setCell (p := ⟨w.heap.size, 1, none⟩) hl _⟩
theorem parseP_m_a2 (s R W Q : ByteArray) (w : World) (hs : s.size ≤ 400) (hw : W.size ≤ 400) (hq100 : Q.size ≤ 400) (h0 : 0 < s.size) (hc : (s[0].toNat : Int) = 45) (hR : s.extract 1 s.size = R) (h9 : 9 < W.size) (b : Bool)
  (hcut : ∀ w, Calls Tryz.prog 169 #[.string R, .string ⟨#[46]⟩] w fun e w' => e = .returned (.tuple #[.string W, .string Q, .bool b]) ∧ Below w.heap.size w w')
  (hW : ∀ w, Calls Tryz.prog 170 #[.string W] w fun e w' => e = .returned (.int .i64 W.size) ∧ w = w') :
  Calls Tryz.prog 112 #[.string s] w fun e w' => e = .returned (.tuple #[.agg #[.int .i64 0, .int .i64 0], .int .i64 1]) ∧ Below w.heap.size w w' := by
 have hem := emp_no s h0
 have f1 : decide (9 < W.size) = true := by simpa using h9
 have KR := Known.made w 50 #[.int .i64 0, .int .i64 0]
 have hb := below_new0 w (.cells #[.int .i64 0, .int .i64 0] 50)
 have hl : w.heap.size ≤ w.heap.size := Nat.le_refl _
 go_enter Tryz.func112, Tryz.ntmps112
 go_wp2_with fail
 go_region
 all_goals (try go_wp2_with fail)
 replace hb := hb.drew
 replace KR := KR.on (Below.refl _ _).drew
 refine (hcut _).mono ?_
 rintro e w1 ⟨rfl, hb1⟩
 replace hb := hb.then_ hb1
 replace KR := KR.on hb1
 clear hcut
 go_wp2_with fail
 refine (hW _).mono ?_
 rintro e w2 ⟨rfl, rfl⟩
 have q0 := KR.free 0
 have q1 := KR.free 1
 obtain ⟨r0, r1⟩ := KR.two
 have Kz : Known _ _ _ #[.int .i64 0, .int .i64 0] := (KR.put 0 (.int .i64 0)).put 1 (.int .i64 0)
 obtain ⟨z0, z1⟩ := Kz.two
 go_wp2_with fail
 exact bodyPost_ret (v := .tuple #[.agg #[.int .i64 0, .int .i64 0], .int .i64 1]) (by simp [results, Tryz.results112, go_sem, z0, z1]) rfl ⟨rfl, (hb.setCell (p := ⟨w.heap.size, 0, none⟩) hl _).setCell (p := ⟨w.heap.size, 1, none⟩) hl _⟩
theorem parseP_m_a3 (s R W Q : ByteArray) (w : World) (hs : s.size ≤ 400) (hw : W.size ≤ 400) (hq100 : Q.size ≤ 400) (h0 : 0 < s.size) (hc : (s[0].toNat : Int) = 45) (hR : s.extract 1 s.size = R) (h9 : W.size = 0)
  (hcut : ∀ w, Calls Tryz.prog 169 #[.string R, .string ⟨#[46]⟩] w fun e w' => e = .returned (.tuple #[.string W, .string Q, .bool false]) ∧ Below w.heap.size w w')
  (hW : ∀ w, Calls Tryz.prog 170 #[.string W] w fun e w' => e = .returned (.int .i64 W.size) ∧ w = w') :
  Calls Tryz.prog 112 #[.string s] w fun e w' => e = .returned (.tuple #[.agg #[.int .i64 0, .int .i64 0], .int .i64 1]) ∧ Below w.heap.size w w' := by
 have hem := emp_no s h0
 have f1 := emp_yes W h9
 have f2 : decide (9 < W.size) = false := by simp; omega
 have KR := Known.made w 50 #[.int .i64 0, .int .i64 0]
 have hb := below_new0 w (.cells #[.int .i64 0, .int .i64 0] 50)
 have hl : w.heap.size ≤ w.heap.size := Nat.le_refl _
 go_enter Tryz.func112, Tryz.ntmps112
 go_wp2_with fail
 go_region
 all_goals (try go_wp2_with fail)
 replace hb := hb.drew
 replace KR := KR.on (Below.refl _ _).drew
 refine (hcut _).mono ?_
 rintro e w1 ⟨rfl, hb1⟩
 replace hb := hb.then_ hb1
 replace KR := KR.on hb1
 clear hcut
 go_wp2_with fail
 refine (hW _).mono ?_
 rintro e w2 ⟨rfl, rfl⟩
 have q0 := KR.free 0
 have q1 := KR.free 1
 obtain ⟨r0, r1⟩ := KR.two
 have Kz : Known _ _ _ #[.int .i64 0, .int .i64 0] := (KR.put 0 (.int .i64 0)).put 1 (.int .i64 0)
 obtain ⟨z0, z1⟩ := Kz.two
 go_wp2_with fail
 exact bodyPost_ret (v := .tuple #[.agg #[.int .i64 0, .int .i64 0], .int .i64 1]) (by simp [results, Tryz.results112, go_sem, z0, z1]) rfl ⟨rfl, (hb.setCell (p := ⟨w.heap.size, 0, none⟩) hl _).setCell (p := ⟨w.heap.size, 1, none⟩) hl _⟩
theorem parseP_m_a4 (s R W Q : ByteArray) (w : World) (hs : s.size ≤ 400) (hw : W.size ≤ 400) (hq100 : Q.size ≤ 400) (h0 : 0 < s.size) (hc : (s[0].toNat : Int) = 45) (hR : s.extract 1 s.size = R) (h9 : W.size ≤ 9) (h1 : 0 < W.size) (hq9 : Q.size ≤ 9)
  (hcut : ∀ w, Calls Tryz.prog 169 #[.string R, .string ⟨#[46]⟩] w fun e w' => e = .returned (.tuple #[.string W, .string Q, .bool false]) ∧ Below w.heap.size w w')
  (hW : ∀ w, Calls Tryz.prog 170 #[.string W] w fun e w' => e = .returned (.int .i64 W.size) ∧ w = w') (v P : Int)
  (hA : ∀ w, Calls Tryz.prog 66 #[.string (⟨#[48]⟩ ++ W ++ Q)] w fun e w' => e = .returned (.tuple #[.int .i64 v, .nilIface]) ∧ Below w.heap.size w w')
  (hP : ∀ w, Calls Tryz.prog 57 #[.int .i64 Q.size] w fun e w' => e = .returned (.int .i64 P) ∧ w = w')
  (v0 : 0 ≤ v) (v1 : v ≤ 1000000000000000000) (P0 : 1 ≤ P) (P1 : P ≤ 1000000000) :
  Calls Tryz.prog 112 #[.string s] w fun e w' => e = .returned (.tuple #[.agg #[.int .i64 (Num.redN (-v) P), .int .i64 (Num.redD (-v) P)], .int .i64 (Num.redE (-v) P)]) ∧ Below w.heap.size w w' := by
 have hem := emp_no s h0
 have f1 := emp_no W h1
 have f2 : decide (9 < W.size) = false := by simp; omega
 have KR := Known.made w 50 #[.int .i64 0, .int .i64 0]
 have hb := below_new0 w (.cells #[.int .i64 0, .int .i64 0] 50)
 have hl : w.heap.size ≤ w.heap.size := Nat.le_refl _
 go_enter Tryz.func112, Tryz.ntmps112
 go_wp2_with fail
 go_region
 all_goals (try go_wp2_with fail)
 replace hb := hb.drew
 replace KR := KR.on (Below.refl _ _).drew
 refine (hcut _).mono ?_
 rintro e w1 ⟨rfl, hb1⟩
 replace hb := hb.then_ hb1
 replace KR := KR.on hb1
 clear hcut
 go_wp2_with fail
 refine (hW _).mono ?_
 rintro e w2 ⟨rfl, rfl⟩
 go_wp2_with fail
 refine (hA _).mono ?_
 rintro e w3 ⟨rfl, hb3⟩
 replace hb := hb.then_ hb3
 replace KR := KR.on hb3
 clear hA
 go_wp2_with fail
 refine (hP _).mono ?_
 rintro e w4 ⟨rfl, rfl⟩
 clear hP
 go_wp2_with fail
 refine (reduce_any (-v) P _ (by omega) (by omega) (by omega) (by omega) (by omega)).mono ?_
 rintro e w5 ⟨rfl, hb5⟩
 replace hb := hb.then_ hb5
 replace KR := KR.on hb5
 have q0 := KR.free 0
 have q1 := KR.free 1
 obtain ⟨r0, r1⟩ := KR.two
 have Kz : Known _ _ _ #[.int .i64 (Num.redN (-v) P), .int .i64 (Num.redD (-v) P)] := (KR.put 0 (.int .i64 (Num.redN (-v) P))).put 1 (.int .i64 (Num.redD (-v) P))
 obtain ⟨z0, z1⟩ := Kz.two
 go_wp2_with fail
 exact bodyPost_ret (v := .tuple #[.agg #[.int .i64 (Num.redN (-v) P), .int .i64 (Num.redD (-v) P)], .int .i64 (Num.redE (-v) P)]) (by simp [results, Tryz.results112, go_sem, z0, z1]) rfl ⟨rfl, (hb.setCell (p := ⟨w.heap.size, 0, none⟩) hl _).setCell (p := ⟨w.heap.size, 1, none⟩) hl _⟩
theorem parseP_m_a7 (s R W Q : ByteArray) (w : World) (hs : s.size ≤ 400) (hw : W.size ≤ 400) (hq100 : Q.size ≤ 400) (h0 : 0 < s.size) (hc : (s[0].toNat : Int) = 45) (hR : s.extract 1 s.size = R) (h9 : W.size ≤ 9) (hq : Q.size = 0)
  (hcut : ∀ w, Calls Tryz.prog 169 #[.string R, .string ⟨#[46]⟩] w fun e w' => e = .returned (.tuple #[.string W, .string Q, .bool true]) ∧ Below w.heap.size w w')
  (hW : ∀ w, Calls Tryz.prog 170 #[.string W] w fun e w' => e = .returned (.int .i64 W.size) ∧ w = w') :
  Calls Tryz.prog 112 #[.string s] w fun e w' => e = .returned (.tuple #[.agg #[.int .i64 0, .int .i64 0], .int .i64 1]) ∧ Below w.heap.size w w' := by
 have hem := emp_no s h0
 have f1 := emp_yes Q hq
 have f2 : decide (9 < W.size) = false := by simp; omega
 have KR := Known.made w 50 #[.int .i64 0, .int .i64 0]
 have hb := below_new0 w (.cells #[.int .i64 0, .int .i64 0] 50)
 have hl : w.heap.size ≤ w.heap.size := Nat.le_refl _
 go_enter Tryz.func112, Tryz.ntmps112
 go_wp2_with fail
 go_region
 all_goals (try go_wp2_with fail)
 replace hb := hb.drew
 replace KR := KR.on (Below.refl _ _).drew
 refine (hcut _).mono ?_
 rintro e w1 ⟨rfl, hb1⟩
 replace hb := hb.then_ hb1
 replace KR := KR.on hb1
 clear hcut
 go_wp2_with fail
 refine (hW _).mono ?_
 rintro e w2 ⟨rfl, rfl⟩
 have q0 := KR.free 0
 have q1 := KR.free 1
 obtain ⟨r0, r1⟩ := KR.two
 have Kz : Known _ _ _ #[.int .i64 0, .int .i64 0] := (KR.put 0 (.int .i64 0)).put 1 (.int .i64 0)
 obtain ⟨z0, z1⟩ := Kz.two
 go_wp2_with fail
 exact bodyPost_ret (v := .tuple #[.agg #[.int .i64 0, .int .i64 0], .int .i64 1]) (by simp [results, Tryz.results112, go_sem, z0, z1]) rfl ⟨rfl, (hb.setCell (p := ⟨w.heap.size, 0, none⟩) hl _).setCell (p := ⟨w.heap.size, 1, none⟩) hl _⟩
theorem parseP_m_a8 (s R W Q : ByteArray) (w : World) (hs : s.size ≤ 400) (hw : W.size ≤ 400) (hq100 : Q.size ≤ 400) (h0 : 0 < s.size) (hc : (s[0].toNat : Int) = 45) (hR : s.extract 1 s.size = R) (h9 : W.size ≤ 9) (hq1 : 0 < Q.size) (dq : Nat) (hdq : dq < Q.size)
  (hcut : ∀ w, Calls Tryz.prog 169 #[.string R, .string ⟨#[46]⟩] w fun e w' => e = .returned (.tuple #[.string W, .string Q, .bool true]) ∧ Below w.heap.size w w')
  (hW : ∀ w, Calls Tryz.prog 170 #[.string W] w fun e w' => e = .returned (.int .i64 W.size) ∧ w = w')
  (hQ : ∀ w, Calls Tryz.prog 170 #[.string Q] w fun e w' => e = .returned (.int .i64 dq) ∧ w = w') :
  Calls Tryz.prog 112 #[.string s] w fun e w' => e = .returned (.tuple #[.agg #[.int .i64 0, .int .i64 0], .int .i64 1]) ∧ Below w.heap.size w w' := by
 have hem := emp_no s h0
 have f1 := emp_no Q hq1
 have f2 : decide (9 < W.size) = false := by simp; omega
 have f3 : decide (dq < Q.size) = true := by simpa using hdq
 have KR := Known.made w 50 #[.int .i64 0, .int .i64 0]
 have hb := below_new0 w (.cells #[.int .i64 0, .int .i64 0] 50)
 have hl : w.heap.size ≤ w.heap.size := Nat.le_refl _
 go_enter Tryz.func112, Tryz.ntmps112
 go_wp2_with fail
 go_region
 all_goals (try go_wp2_with fail)
 replace hb := hb.drew
 replace KR := KR.on (Below.refl _ _).drew
 refine (hcut _).mono ?_
 rintro e w1 ⟨rfl, hb1⟩
 replace hb := hb.then_ hb1
 replace KR := KR.on hb1
 clear hcut
 go_wp2_with fail
 refine (hW _).mono ?_
 rintro e w2 ⟨rfl, rfl⟩
 go_wp2_with fail
 refine (hQ _).mono ?_
 rintro e w2 ⟨rfl, rfl⟩
 have q0 := KR.free 0
 have q1 := KR.free 1
 obtain ⟨r0, r1⟩ := KR.two
 have Kz : Known _ _ _ #[.int .i64 0, .int .i64 0] := (KR.put 0 (.int .i64 0)).put 1 (.int .i64 0)
 obtain ⟨z0, z1⟩ := Kz.two
 go_wp2_with fail
 exact bodyPost_ret (v := .tuple #[.agg #[.int .i64 0, .int .i64 0], .int .i64 1]) (by simp [results, Tryz.results112, go_sem, z0, z1]) rfl ⟨rfl, (hb.setCell (p := ⟨w.heap.size, 0, none⟩) hl _).setCell (p := ⟨w.heap.size, 1, none⟩) hl _⟩
theorem parseP_m_a9 (s R W Q : ByteArray) (w : World) (hs : s.size ≤ 400) (hw : W.size ≤ 400) (hq100 : Q.size ≤ 400) (h0 : 0 < s.size) (hc : (s[0].toNat : Int) = 45) (hR : s.extract 1 s.size = R) (h9 : W.size ≤ 9) (hq9 : 9 < Q.size)
  (hcut : ∀ w, Calls Tryz.prog 169 #[.string R, .string ⟨#[46]⟩] w fun e w' => e = .returned (.tuple #[.string W, .string Q, .bool true]) ∧ Below w.heap.size w w')
  (hW : ∀ w, Calls Tryz.prog 170 #[.string W] w fun e w' => e = .returned (.int .i64 W.size) ∧ w = w')
  (hQ : ∀ w, Calls Tryz.prog 170 #[.string Q] w fun e w' => e = .returned (.int .i64 Q.size) ∧ w = w') :
  Calls Tryz.prog 112 #[.string s] w fun e w' => e = .returned (.tuple #[.agg #[.int .i64 0, .int .i64 0], .int .i64 1]) ∧ Below w.heap.size w w' := by
 have hem := emp_no s h0
 have f1 := emp_no Q (by omega)
 have f2 : decide (9 < W.size) = false := by simp; omega
 have f3 : decide (9 < Q.size) = true := by simpa using hq9
 have KR := Known.made w 50 #[.int .i64 0, .int .i64 0]
 have hb := below_new0 w (.cells #[.int .i64 0, .int .i64 0] 50)
 have hl : w.heap.size ≤ w.heap.size := Nat.le_refl _
 go_enter Tryz.func112, Tryz.ntmps112
 go_wp2_with fail
 go_region
 all_goals (try go_wp2_with fail)
 replace hb := hb.drew
 replace KR := KR.on (Below.refl _ _).drew
 refine (hcut _).mono ?_
 rintro e w1 ⟨rfl, hb1⟩
 replace hb := hb.then_ hb1
 replace KR := KR.on hb1
 clear hcut
 go_wp2_with fail
 refine (hW _).mono ?_
 rintro e w2 ⟨rfl, rfl⟩
 go_wp2_with fail
 refine (hQ _).mono ?_
 rintro e w2 ⟨rfl, rfl⟩
 have q0 := KR.free 0
 have q1 := KR.free 1
 obtain ⟨r0, r1⟩ := KR.two
 have Kz : Known _ _ _ #[.int .i64 0, .int .i64 0] := (KR.put 0 (.int .i64 0)).put 1 (.int .i64 0)
 obtain ⟨z0, z1⟩ := Kz.two
 go_wp2_with fail
 exact bodyPost_ret (v := .tuple #[.agg #[.int .i64 0, .int .i64 0], .int .i64 1]) (by simp [results, Tryz.results112, go_sem, z0, z1]) rfl ⟨rfl, (hb.setCell (p := ⟨w.heap.size, 0, none⟩) hl _).setCell (p := ⟨w.heap.size, 1, none⟩) hl _⟩
theorem parseP_m_a10 (s R W Q : ByteArray) (w : World) (hs : s.size ≤ 400) (hw : W.size ≤ 400) (hq100 : Q.size ≤ 400) (h0 : 0 < s.size) (hc : (s[0].toNat : Int) = 45) (hR : s.extract 1 s.size = R) (h9 : W.size ≤ 9) (hq1 : 0 < Q.size) (hq9 : Q.size ≤ 9)
  (hcut : ∀ w, Calls Tryz.prog 169 #[.string R, .string ⟨#[46]⟩] w fun e w' => e = .returned (.tuple #[.string W, .string Q, .bool true]) ∧ Below w.heap.size w w')
  (hW : ∀ w, Calls Tryz.prog 170 #[.string W] w fun e w' => e = .returned (.int .i64 W.size) ∧ w = w')
  (hQ : ∀ w, Calls Tryz.prog 170 #[.string Q] w fun e w' => e = .returned (.int .i64 Q.size) ∧ w = w') (v P : Int)
  (hA : ∀ w, Calls Tryz.prog 66 #[.string (⟨#[48]⟩ ++ W ++ Q)] w fun e w' => e = .returned (.tuple #[.int .i64 v, .nilIface]) ∧ Below w.heap.size w w')
  (hP : ∀ w, Calls Tryz.prog 57 #[.int .i64 Q.size] w fun e w' => e = .returned (.int .i64 P) ∧ w = w')
  (v0 : 0 ≤ v) (v1 : v ≤ 1000000000000000000) (P0 : 1 ≤ P) (P1 : P ≤ 1000000000) :
  Calls Tryz.prog 112 #[.string s] w fun e w' => e = .returned (.tuple #[.agg #[.int .i64 (Num.redN (-v) P), .int .i64 (Num.redD (-v) P)], .int .i64 (Num.redE (-v) P)]) ∧ Below w.heap.size w w' := by
 have hem := emp_no s h0
 have f1 := emp_no Q hq1
 have f2 : decide (9 < W.size) = false := by simp; omega
 have f3 : decide (9 < Q.size) = false := by simp; omega
 have KR := Known.made w 50 #[.int .i64 0, .int .i64 0]
 have hb := below_new0 w (.cells #[.int .i64 0, .int .i64 0] 50)
 have hl : w.heap.size ≤ w.heap.size := Nat.le_refl _
 go_enter Tryz.func112, Tryz.ntmps112
 go_wp2_with fail
 go_region
 all_goals (try go_wp2_with fail)
 replace hb := hb.drew
 replace KR := KR.on (Below.refl _ _).drew
 refine (hcut _).mono ?_
 rintro e w1 ⟨rfl, hb1⟩
 replace hb := hb.then_ hb1
 replace KR := KR.on hb1
 clear hcut
 go_wp2_with fail
 refine (hW _).mono ?_
 rintro e w2 ⟨rfl, rfl⟩
 go_wp2_with fail
 refine (hQ _).mono ?_
 rintro e w2 ⟨rfl, rfl⟩
 go_wp2_with fail
 refine (hA _).mono ?_
 rintro e w3 ⟨rfl, hb3⟩
 replace hb := hb.then_ hb3
 replace KR := KR.on hb3
 clear hA
 go_wp2_with fail
 refine (hP _).mono ?_
 rintro e w4 ⟨rfl, rfl⟩
 clear hP
 go_wp2_with fail
 refine (reduce_any (-v) P _ (by omega) (by omega) (by omega) (by omega) (by omega)).mono ?_
 rintro e w5 ⟨rfl, hb5⟩
 replace hb := hb.then_ hb5
 replace KR := KR.on hb5
 have q0 := KR.free 0
 have q1 := KR.free 1
 obtain ⟨r0, r1⟩ := KR.two
 have Kz : Known _ _ _ #[.int .i64 (Num.redN (-v) P), .int .i64 (Num.redD (-v) P)] := (KR.put 0 (.int .i64 (Num.redN (-v) P))).put 1 (.int .i64 (Num.redD (-v) P))
 obtain ⟨z0, z1⟩ := Kz.two
 go_wp2_with fail
 exact bodyPost_ret (v := .tuple #[.agg #[.int .i64 (Num.redN (-v) P), .int .i64 (Num.redD (-v) P)], .int .i64 (Num.redE (-v) P)]) (by simp [results, Tryz.results112, go_sem, z0, z1]) rfl ⟨rfl, (hb.setCell (p := ⟨w.heap.size, 0, none⟩) hl _).setCell (p := ⟨w.heap.size, 1, none⟩) hl _⟩
end Go.Proofs.YtcklofamaooegaaGreatDoor
