/-
  Parse, by the program, case by case. Conditions: those typed in each theorem.
-/
import Derived.Test.YtlkfnpmcihfjmaaDoorNumCut
import Derived.Test.YtlkfnpmcihfjmaaDoorNumRed
namespace Go.Proofs.YtlkfnpmcihfjmaaDoor
open Go.RowKit
set_option linter.unusedVariables false

theorem emp_no (s : ByteArray) (h : 0 < s.size) : s.toList.isEmpty = false := by
  rw [ByteArray.toList_eq]
  cases hl : s.data.toList with
  | nil => have : s.data.toList.length = s.size := by simp
           rw [hl] at this; simp at this; omega
  | cons _ _ => rfl
theorem emp_yes (s : ByteArray) (h : s.size = 0) : s.toList.isEmpty = true := by
  rw [ByteArray.toList_eq]
  cases hl : s.data.toList with
  | nil => rfl
  | cons a l => have : s.data.toList.length = s.size := by simp
                rw [hl] at this; simp at this; omega

set_option maxRecDepth 10000 in
set_option maxHeartbeats 1000000 in
theorem parseP_e_a3 (s W Q : ByteArray) (w : World) (hs : s.size ≤ 100) (hw : W.size ≤ 100) (hq100 : Q.size ≤ 100) (h0 : s.size = 0) (h9 : W.size = 0)
    (hcut : ∀ w, Calls Tryd.prog 56 #[.string s, .string ⟨#[46]⟩] w fun e w' => e = .returned (.tuple #[.string W, .string Q, .bool false]) ∧ Below w.heap.size w w')
    (hW : ∀ w, Calls Tryd.prog 57 #[.string W] w fun e w' => e = .returned (.int .i64 W.size) ∧ w = w') :
    Calls Tryd.prog 41 #[.string s] w fun e w' => e = .returned (.tuple #[.agg #[.int .i64 0, .int .i64 0], .int .i64 1]) ∧ Below w.heap.size w w' := by
  have hem := emp_yes s h0
  have f1 := emp_yes W h9
  have f2 : decide (9 < W.size) = false := by simp; omega
  have KR := Known.made w 23 #[.int .i64 0, .int .i64 0]
  have hb := below_new0 w (.cells #[.int .i64 0, .int .i64 0] 23)
  have hl : w.heap.size ≤ w.heap.size := Nat.le_refl _
  go_enter Tryd.func41, Tryd.ntmps41
  go_wp2_with fail
  refine (hcut _).mono ?_
  rintro e w1 ⟨rfl, hb1⟩
  replace hb := hb.then_ hb1
  replace KR := KR.on hb1
  clear hcut
  go_wp2_with fail
  refine (hW _).mono ?_
  rintro e w2 ⟨rfl, rfl⟩
  have q0 := KR.free 0
  have q1 := KR.free 1
  obtain ⟨r0, r1⟩ := KR.two
  have Kz : Known _ _ _ #[.int .i64 0, .int .i64 0] := (KR.put 0 (.int .i64 0)).put 1 (.int .i64 0)
  obtain ⟨z0, z1⟩ := Kz.two
  go_wp2_with fail
  exact bodyPost_ret (v := .tuple #[.agg #[.int .i64 0, .int .i64 0], .int .i64 1]) (by simp [results, Tryd.results41, go_sem, z0, z1]) rfl ⟨rfl, (hb.setCell (p := ⟨w.heap.size, 0, none⟩) hl _).setCell (p := ⟨w.heap.size, 1, none⟩) hl _⟩

set_option maxRecDepth 10000 in
set_option maxHeartbeats 1000000 in
theorem parseP_n_a1 (s W Q : ByteArray) (w : World) (hs : s.size ≤ 100) (hw : W.size ≤ 100) (hq100 : Q.size ≤ 100) (h0 : 0 < s.size) (hc : ¬ (s[0].toNat : Int) = 43) (hd : ¬ (s[0].toNat : Int) = 45) (dw : Nat) (hdw : dw < W.size) (b : Bool)
    (hcut : ∀ w, Calls Tryd.prog 56 #[.string s, .string ⟨#[46]⟩] w fun e w' => e = .returned (.tuple #[.string W, .string Q, .bool b]) ∧ Below w.heap.size w w')
    (hW : ∀ w, Calls Tryd.prog 57 #[.string W] w fun e w' => e = .returned (.int .i64 dw) ∧ w = w') :
    Calls Tryd.prog 41 #[.string s] w fun e w' => e = .returned (.tuple #[.agg #[.int .i64 0, .int .i64 0], .int .i64 1]) ∧ Below w.heap.size w w' := by
  have hem := emp_no s h0
  have hc' : ((s[0].toNat : Int) == 43) = false := by simpa using hc
  have hd' : ((s[0].toNat : Int) == 45) = false := by simpa using hd
  have f1 : decide (dw < W.size) = true := by simpa using hdw
  have KR := Known.made w 23 #[.int .i64 0, .int .i64 0]
  have hb := below_new0 w (.cells #[.int .i64 0, .int .i64 0] 23)
  have hl : w.heap.size ≤ w.heap.size := Nat.le_refl _
  go_enter Tryd.func41, Tryd.ntmps41
  go_wp2_with fail
  refine (hcut _).mono ?_
  rintro e w1 ⟨rfl, hb1⟩
  replace hb := hb.then_ hb1
  replace KR := KR.on hb1
  clear hcut
  go_wp2_with fail
  refine (hW _).mono ?_
  rintro e w2 ⟨rfl, rfl⟩
  have q0 := KR.free 0
  have q1 := KR.free 1
  obtain ⟨r0, r1⟩ := KR.two
  have Kz : Known _ _ _ #[.int .i64 0, .int .i64 0] := (KR.put 0 (.int .i64 0)).put 1 (.int .i64 0)
  obtain ⟨z0, z1⟩ := Kz.two
  go_wp2_with fail
  exact bodyPost_ret (v := .tuple #[.agg #[.int .i64 0, .int .i64 0], .int .i64 1]) (by simp [results, Tryd.results41, go_sem, z0, z1]) rfl ⟨rfl, (hb.setCell (p := ⟨w.heap.size, 0, none⟩) hl _).setCell (p := ⟨w.heap.size, 1, none⟩) hl _⟩

set_option maxRecDepth 10000 in
set_option maxHeartbeats 1000000 in
theorem parseP_n_a2 (s W Q : ByteArray) (w : World) (hs : s.size ≤ 100) (hw : W.size ≤ 100) (hq100 : Q.size ≤ 100) (h0 : 0 < s.size) (hc : ¬ (s[0].toNat : Int) = 43) (hd : ¬ (s[0].toNat : Int) = 45) (h9 : 9 < W.size) (b : Bool)
    (hcut : ∀ w, Calls Tryd.prog 56 #[.string s, .string ⟨#[46]⟩] w fun e w' => e = .returned (.tuple #[.string W, .string Q, .bool b]) ∧ Below w.heap.size w w')
    (hW : ∀ w, Calls Tryd.prog 57 #[.string W] w fun e w' => e = .returned (.int .i64 W.size) ∧ w = w') :
    Calls Tryd.prog 41 #[.string s] w fun e w' => e = .returned (.tuple #[.agg #[.int .i64 0, .int .i64 0], .int .i64 1]) ∧ Below w.heap.size w w' := by
  have hem := emp_no s h0
  have hc' : ((s[0].toNat : Int) == 43) = false := by simpa using hc
  have hd' : ((s[0].toNat : Int) == 45) = false := by simpa using hd
  have f1 : decide (9 < W.size) = true := by simpa using h9
  have KR := Known.made w 23 #[.int .i64 0, .int .i64 0]
  have hb := below_new0 w (.cells #[.int .i64 0, .int .i64 0] 23)
  have hl : w.heap.size ≤ w.heap.size := Nat.le_refl _
  go_enter Tryd.func41, Tryd.ntmps41
  go_wp2_with fail
  refine (hcut _).mono ?_
  rintro e w1 ⟨rfl, hb1⟩
  replace hb := hb.then_ hb1
  replace KR := KR.on hb1
  clear hcut
  go_wp2_with fail
  refine (hW _).mono ?_
  rintro e w2 ⟨rfl, rfl⟩
  have q0 := KR.free 0
  have q1 := KR.free 1
  obtain ⟨r0, r1⟩ := KR.two
  have Kz : Known _ _ _ #[.int .i64 0, .int .i64 0] := (KR.put 0 (.int .i64 0)).put 1 (.int .i64 0)
  obtain ⟨z0, z1⟩ := Kz.two
  go_wp2_with fail
  exact bodyPost_ret (v := .tuple #[.agg #[.int .i64 0, .int .i64 0], .int .i64 1]) (by simp [results, Tryd.results41, go_sem, z0, z1]) rfl ⟨rfl, (hb.setCell (p := ⟨w.heap.size, 0, none⟩) hl _).setCell (p := ⟨w.heap.size, 1, none⟩) hl _⟩

set_option maxRecDepth 10000 in
set_option maxHeartbeats 1000000 in
theorem parseP_n_a3 (s W Q : ByteArray) (w : World) (hs : s.size ≤ 100) (hw : W.size ≤ 100) (hq100 : Q.size ≤ 100) (h0 : 0 < s.size) (hc : ¬ (s[0].toNat : Int) = 43) (hd : ¬ (s[0].toNat : Int) = 45) (h9 : W.size = 0)
    (hcut : ∀ w, Calls Tryd.prog 56 #[.string s, .string ⟨#[46]⟩] w fun e w' => e = .returned (.tuple #[.string W, .string Q, .bool false]) ∧ Below w.heap.size w w')
    (hW : ∀ w, Calls Tryd.prog 57 #[.string W] w fun e w' => e = .returned (.int .i64 W.size) ∧ w = w') :
    Calls Tryd.prog 41 #[.string s] w fun e w' => e = .returned (.tuple #[.agg #[.int .i64 0, .int .i64 0], .int .i64 1]) ∧ Below w.heap.size w w' := by
  have hem := emp_no s h0
  have hc' : ((s[0].toNat : Int) == 43) = false := by simpa using hc
  have hd' : ((s[0].toNat : Int) == 45) = false := by simpa using hd
  have f1 := emp_yes W h9
  have f2 : decide (9 < W.size) = false := by simp; omega
  have KR := Known.made w 23 #[.int .i64 0, .int .i64 0]
  have hb := below_new0 w (.cells #[.int .i64 0, .int .i64 0] 23)
  have hl : w.heap.size ≤ w.heap.size := Nat.le_refl _
  go_enter Tryd.func41, Tryd.ntmps41
  go_wp2_with fail
  refine (hcut _).mono ?_
  rintro e w1 ⟨rfl, hb1⟩
  replace hb := hb.then_ hb1
  replace KR := KR.on hb1
  clear hcut
  go_wp2_with fail
  refine (hW _).mono ?_
  rintro e w2 ⟨rfl, rfl⟩
  have q0 := KR.free 0
  have q1 := KR.free 1
  obtain ⟨r0, r1⟩ := KR.two
  have Kz : Known _ _ _ #[.int .i64 0, .int .i64 0] := (KR.put 0 (.int .i64 0)).put 1 (.int .i64 0)
  obtain ⟨z0, z1⟩ := Kz.two
  go_wp2_with fail
  exact bodyPost_ret (v := .tuple #[.agg #[.int .i64 0, .int .i64 0], .int .i64 1]) (by simp [results, Tryd.results41, go_sem, z0, z1]) rfl ⟨rfl, (hb.setCell (p := ⟨w.heap.size, 0, none⟩) hl _).setCell (p := ⟨w.heap.size, 1, none⟩) hl _⟩

set_option maxRecDepth 10000 in
set_option maxHeartbeats 1000000 in
theorem parseP_n_a4 (s W Q : ByteArray) (w : World) (hs : s.size ≤ 100) (hw : W.size ≤ 100) (hq100 : Q.size ≤ 100) (h0 : 0 < s.size) (hc : ¬ (s[0].toNat : Int) = 43) (hd : ¬ (s[0].toNat : Int) = 45) (h9 : W.size ≤ 9) (h1 : 0 < W.size) (hq9 : Q.size ≤ 9)
    (hcut : ∀ w, Calls Tryd.prog 56 #[.string s, .string ⟨#[46]⟩] w fun e w' => e = .returned (.tuple #[.string W, .string Q, .bool false]) ∧ Below w.heap.size w w')
    (hW : ∀ w, Calls Tryd.prog 57 #[.string W] w fun e w' => e = .returned (.int .i64 W.size) ∧ w = w') (v P : Int)
    (hA : ∀ w, Calls Tryd.prog 58 #[.string (⟨#[48]⟩ ++ W ++ Q)] w fun e w' => e = .returned (.tuple #[.int .i64 v, .nilIface]) ∧ Below w.heap.size w w')
    (hP : ∀ w, Calls Tryd.prog 60 #[.int .i64 Q.size] w fun e w' => e = .returned (.int .i64 P) ∧ w = w')
    (v0 : 0 ≤ v) (v1 : v ≤ 1000000000000000000) (P0 : 1 ≤ P) (P1 : P ≤ 1000000000) :
    Calls Tryd.prog 41 #[.string s] w fun e w' => e = .returned (.tuple #[.agg #[.int .i64 (Num.redN v P), .int .i64 (Num.redD v P)], .int .i64 (Num.redE v P)]) ∧ Below w.heap.size w w' := by
  have hem := emp_no s h0
  have hc' : ((s[0].toNat : Int) == 43) = false := by simpa using hc
  have hd' : ((s[0].toNat : Int) == 45) = false := by simpa using hd
  have f1 := emp_no W h1
  have f2 : decide (9 < W.size) = false := by simp; omega
  have KR := Known.made w 23 #[.int .i64 0, .int .i64 0]
  have hb := below_new0 w (.cells #[.int .i64 0, .int .i64 0] 23)
  have hl : w.heap.size ≤ w.heap.size := Nat.le_refl _
  go_enter Tryd.func41, Tryd.ntmps41
  go_wp2_with fail
  refine (hcut _).mono ?_
  rintro e w1 ⟨rfl, hb1⟩
  replace hb := hb.then_ hb1
  replace KR := KR.on hb1
  clear hcut
  go_wp2_with fail
  refine (hW _).mono ?_
  rintro e w2 ⟨rfl, rfl⟩
  go_wp2_with fail
  refine (hA _).mono ?_
  rintro e w3 ⟨rfl, hb3⟩
  replace hb := hb.then_ hb3
  replace KR := KR.on hb3
  clear hA
  go_wp2_with fail
  refine (hP _).mono ?_
  rintro e w4 ⟨rfl, rfl⟩
  clear hP
  go_wp2_with fail
  refine (reduce_any v P _ (by omega) (by omega) (by omega) (by omega) (by omega)).mono ?_
  rintro e w5 ⟨rfl, hb5⟩
  replace hb := hb.then_ hb5
  replace KR := KR.on hb5
  have q0 := KR.free 0
  have q1 := KR.free 1
  obtain ⟨r0, r1⟩ := KR.two
  have Kz : Known _ _ _ #[.int .i64 (Num.redN v P), .int .i64 (Num.redD v P)] := (KR.put 0 (.int .i64 (Num.redN v P))).put 1 (.int .i64 (Num.redD v P))
  obtain ⟨z0, z1⟩ := Kz.two
  go_wp2_with fail
  exact bodyPost_ret (v := .tuple #[.agg #[.int .i64 (Num.redN v P), .int .i64 (Num.redD v P)], .int .i64 (Num.redE v P)]) (by simp [results, Tryd.results41, go_sem, z0, z1]) rfl ⟨rfl, (hb.setCell (p := ⟨w.heap.size, 0, none⟩) hl _).setCell (p := ⟨w.heap.size, 1, none⟩) hl _⟩

set_option maxRecDepth 10000 in
set_option maxHeartbeats 1000000 in
theorem parseP_n_a7 (s W Q : ByteArray) (w : World) (hs : s.size ≤ 100) (hw : W.size ≤ 100) (hq100 : Q.size ≤ 100) (h0 : 0 < s.size) (hc : ¬ (s[0].toNat : Int) = 43) (hd : ¬ (s[0].toNat : Int) = 45) (h9 : W.size ≤ 9) (hq : Q.size = 0)
    (hcut : ∀ w, Calls Tryd.prog 56 #[.string s, .string ⟨#[46]⟩] w fun e w' => e = .returned (.tuple #[.string W, .string Q, .bool true]) ∧ Below w.heap.size w w')
    (hW : ∀ w, Calls Tryd.prog 57 #[.string W] w fun e w' => e = .returned (.int .i64 W.size) ∧ w = w') :
    Calls Tryd.prog 41 #[.string s] w fun e w' => e = .returned (.tuple #[.agg #[.int .i64 0, .int .i64 0], .int .i64 1]) ∧ Below w.heap.size w w' := by
  have hem := emp_no s h0
  have hc' : ((s[0].toNat : Int) == 43) = false := by simpa using hc
  have hd' : ((s[0].toNat : Int) == 45) = false := by simpa using hd
  have f1 := emp_yes Q hq
  have f2 : decide (9 < W.size) = false := by simp; omega
  have KR := Known.made w 23 #[.int .i64 0, .int .i64 0]
  have hb := below_new0 w (.cells #[.int .i64 0, .int .i64 0] 23)
  have hl : w.heap.size ≤ w.heap.size := Nat.le_refl _
  go_enter Tryd.func41, Tryd.ntmps41
  go_wp2_with fail
  refine (hcut _).mono ?_
  rintro e w1 ⟨rfl, hb1⟩
  replace hb := hb.then_ hb1
  replace KR := KR.on hb1
  clear hcut
  go_wp2_with fail
  refine (hW _).mono ?_
  rintro e w2 ⟨rfl, rfl⟩
  have q0 := KR.free 0
  have q1 := KR.free 1
  obtain ⟨r0, r1⟩ := KR.two
  have Kz : Known _ _ _ #[.int .i64 0, .int .i64 0] := (KR.put 0 (.int .i64 0)).put 1 (.int .i64 0)
  obtain ⟨z0, z1⟩ := Kz.two
  go_wp2_with fail
  exact bodyPost_ret (v := .tuple #[.agg #[.int .i64 0, .int .i64 0], .int .i64 1]) (by simp [results, Tryd.results41, go_sem, z0, z1]) rfl ⟨rfl, (hb.setCell (p := ⟨w.heap.size, 0, none⟩) hl _).setCell (p := ⟨w.heap.size, 1, none⟩) hl _⟩

set_option maxRecDepth 10000 in
set_option maxHeartbeats 1000000 in
theorem parseP_n_a8 (s W Q : ByteArray) (w : World) (hs : s.size ≤ 100) (hw : W.size ≤ 100) (hq100 : Q.size ≤ 100) (h0 : 0 < s.size) (hc : ¬ (s[0].toNat : Int) = 43) (hd : ¬ (s[0].toNat : Int) = 45) (h9 : W.size ≤ 9) (hq1 : 0 < Q.size) (dq : Nat) (hdq : dq < Q.size)
    (hcut : ∀ w, Calls Tryd.prog 56 #[.string s, .string ⟨#[46]⟩] w fun e w' => e = .returned (.tuple #[.string W, .string Q, .bool true]) ∧ Below w.heap.size w w')
    (hW : ∀ w, Calls Tryd.prog 57 #[.string W] w fun e w' => e = .returned (.int .i64 W.size) ∧ w = w')
    (hQ : ∀ w, Calls Tryd.prog 57 #[.string Q] w fun e w' => e = .returned (.int .i64 dq) ∧ w = w') :
    Calls Tryd.prog 41 #[.string s] w fun e w' => e = .returned (.tuple #[.agg #[.int .i64 0, .int .i64 0], .int .i64 1]) ∧ Below w.heap.size w w' := by
  have hem := emp_no s h0
  have hc' : ((s[0].toNat : Int) == 43) = false := by simpa using hc
  have hd' : ((s[0].toNat : Int) == 45) = false := by simpa using hd
  have f1 := emp_no Q hq1
  have f2 : decide (9 < W.size) = false := by simp; omega
  have f3 : decide (dq < Q.size) = true := by simpa using hdq
  have KR := Known.made w 23 #[.int .i64 0, .int .i64 0]
  have hb := below_new0 w (.cells #[.int .i64 0, .int .i64 0] 23)
  have hl : w.heap.size ≤ w.heap.size := Nat.le_refl _
  go_enter Tryd.func41, Tryd.ntmps41
  go_wp2_with fail
  refine (hcut _).mono ?_
  rintro e w1 ⟨rfl, hb1⟩
  replace hb := hb.then_ hb1
  replace KR := KR.on hb1
  clear hcut
  go_wp2_with fail
  refine (hW _).mono ?_
  rintro e w2 ⟨rfl, rfl⟩
  go_wp2_with fail
  refine (hQ _).mono ?_
  rintro e w2 ⟨rfl, rfl⟩
  have q0 := KR.free 0
  have q1 := KR.free 1
  obtain ⟨r0, r1⟩ := KR.two
  have Kz : Known _ _ _ #[.int .i64 0, .int .i64 0] := (KR.put 0 (.int .i64 0)).put 1 (.int .i64 0)
  obtain ⟨z0, z1⟩ := Kz.two
  go_wp2_with fail
  exact bodyPost_ret (v := .tuple #[.agg #[.int .i64 0, .int .i64 0], .int .i64 1]) (by simp [results, Tryd.results41, go_sem, z0, z1]) rfl ⟨rfl, (hb.setCell (p := ⟨w.heap.size, 0, none⟩) hl _).setCell (p := ⟨w.heap.size, 1, none⟩) hl _⟩

set_option maxRecDepth 10000 in
set_option maxHeartbeats 1000000 in
theorem parseP_n_a9 (s W Q : ByteArray) (w : World) (hs : s.size ≤ 100) (hw : W.size ≤ 100) (hq100 : Q.size ≤ 100) (h0 : 0 < s.size) (hc : ¬ (s[0].toNat : Int) = 43) (hd : ¬ (s[0].toNat : Int) = 45) (h9 : W.size ≤ 9) (hq9 : 9 < Q.size)
    (hcut : ∀ w, Calls Tryd.prog 56 #[.string s, .string ⟨#[46]⟩] w fun e w' => e = .returned (.tuple #[.string W, .string Q, .bool true]) ∧ Below w.heap.size w w')
    (hW : ∀ w, Calls Tryd.prog 57 #[.string W] w fun e w' => e = .returned (.int .i64 W.size) ∧ w = w')
    (hQ : ∀ w, Calls Tryd.prog 57 #[.string Q] w fun e w' => e = .returned (.int .i64 Q.size) ∧ w = w') :
    Calls Tryd.prog 41 #[.string s] w fun e w' => e = .returned (.tuple #[.agg #[.int .i64 0, .int .i64 0], .int .i64 1]) ∧ Below w.heap.size w w' := by
  have hem := emp_no s h0
  have hc' : ((s[0].toNat : Int) == 43) = false := by simpa using hc
  have hd' : ((s[0].toNat : Int) == 45) = false := by simpa using hd
  have f1 := emp_no Q (by omega)
  have f2 : decide (9 < W.size) = false := by simp; omega
  have f3 : decide (9 < Q.size) = true := by simpa using hq9
  have KR := Known.made w 23 #[.int .i64 0, .int .i64 0]
  have hb := below_new0 w (.cells #[.int .i64 0, .int .i64 0] 23)
  have hl : w.heap.size ≤ w.heap.size := Nat.le_refl _
  go_enter Tryd.func41, Tryd.ntmps41
  go_wp2_with fail
  refine (hcut _).mono ?_
  rintro e w1 ⟨rfl, hb1⟩
  replace hb := hb.then_ hb1
  replace KR := KR.on hb1
  clear hcut
  go_wp2_with fail
  refine (hW _).mono ?_
  rintro e w2 ⟨rfl, rfl⟩
  go_wp2_with fail
  refine (hQ _).mono ?_
  rintro e w2 ⟨rfl, rfl⟩
  have q0 := KR.free 0
  have q1 := KR.free 1
  obtain ⟨r0, r1⟩ := KR.two
  have Kz : Known _ _ _ #[.int .i64 0, .int .i64 0] := (KR.put 0 (.int .i64 0)).put 1 (.int .i64 0)
  obtain ⟨z0, z1⟩ := Kz.two
  go_wp2_with fail
  exact bodyPost_ret (v := .tuple #[.agg #[.int .i64 0, .int .i64 0], .int .i64 1]) (by simp [results, Tryd.results41, go_sem, z0, z1]) rfl ⟨rfl, (hb.setCell (p := ⟨w.heap.size, 0, none⟩) hl _).setCell (p := ⟨w.heap.size, 1, none⟩) hl _⟩

set_option maxRecDepth 10000 in
set_option maxHeartbeats 1000000 in
theorem parseP_n_a10 (s W Q : ByteArray) (w : World) (hs : s.size ≤ 100) (hw : W.size ≤ 100) (hq100 : Q.size ≤ 100) (h0 : 0 < s.size) (hc : ¬ (s[0].toNat : Int) = 43) (hd : ¬ (s[0].toNat : Int) = 45) (h9 : W.size ≤ 9) (hq1 : 0 < Q.size) (hq9 : Q.size ≤ 9)
    (hcut : ∀ w, Calls Tryd.prog 56 #[.string s, .string ⟨#[46]⟩] w fun e w' => e = .returned (.tuple #[.string W, .string Q, .bool true]) ∧ Below w.heap.size w w')
    (hW : ∀ w, Calls Tryd.prog 57 #[.string W] w fun e w' => e = .returned (.int .i64 W.size) ∧ w = w')
    (hQ : ∀ w, Calls Tryd.prog 57 #[.string Q] w fun e w' => e = .returned (.int .i64 Q.size) ∧ w = w') (v P : Int)
    (hA : ∀ w, Calls Tryd.prog 58 #[.string (⟨#[48]⟩ ++ W ++ Q)] w fun e w' => e = .returned (.tuple #[.int .i64 v, .nilIface]) ∧ Below w.heap.size w w')
    (hP : ∀ w, Calls Tryd.prog 60 #[.int .i64 Q.size] w fun e w' => e = .returned (.int .i64 P) ∧ w = w')
    (v0 : 0 ≤ v) (v1 : v ≤ 1000000000000000000) (P0 : 1 ≤ P) (P1 : P ≤ 1000000000) :
    Calls Tryd.prog 41 #[.string s] w fun e w' => e = .returned (.tuple #[.agg #[.int .i64 (Num.redN v P), .int .i64 (Num.redD v P)], .int .i64 (Num.redE v P)]) ∧ Below w.heap.size w w' := by
  have hem := emp_no s h0
  have hc' : ((s[0].toNat : Int) == 43) = false := by simpa using hc
  have hd' : ((s[0].toNat : Int) == 45) = false := by simpa using hd
  have f1 := emp_no Q hq1
  have f2 : decide (9 < W.size) = false := by simp; omega
  have f3 : decide (9 < Q.size) = false := by simp; omega
  have KR := Known.made w 23 #[.int .i64 0, .int .i64 0]
  have hb := below_new0 w (.cells #[.int .i64 0, .int .i64 0] 23)
  have hl : w.heap.size ≤ w.heap.size := Nat.le_refl _
  go_enter Tryd.func41, Tryd.ntmps41
  go_wp2_with fail
  refine (hcut _).mono ?_
  rintro e w1 ⟨rfl, hb1⟩
  replace hb := hb.then_ hb1
  replace KR := KR.on hb1
  clear hcut
  go_wp2_with fail
  refine (hW _).mono ?_
  rintro e w2 ⟨rfl, rfl⟩
  go_wp2_with fail
  refine (hQ _).mono ?_
  rintro e w2 ⟨rfl, rfl⟩
  go_wp2_with fail
  refine (hA _).mono ?_
  rintro e w3 ⟨rfl, hb3⟩
  replace hb := hb.then_ hb3
  replace KR := KR.on hb3
  clear hA
  go_wp2_with fail
  refine (hP _).mono ?_
  rintro e w4 ⟨rfl, rfl⟩
  clear hP
  go_wp2_with fail
  refine (reduce_any v P _ (by omega) (by omega) (by omega) (by omega) (by omega)).mono ?_
  rintro e w5 ⟨rfl, hb5⟩
  replace hb := hb.then_ hb5
  replace KR := KR.on hb5
  have q0 := KR.free 0
  have q1 := KR.free 1
  obtain ⟨r0, r1⟩ := KR.two
  have Kz : Known _ _ _ #[.int .i64 (Num.redN v P), .int .i64 (Num.redD v P)] := (KR.put 0 (.int .i64 (Num.redN v P))).put 1 (.int .i64 (Num.redD v P))
  obtain ⟨z0, z1⟩ := Kz.two
  go_wp2_with fail
  exact bodyPost_ret (v := .tuple #[.agg #[.int .i64 (Num.redN v P), .int .i64 (Num.redD v P)], .int .i64 (Num.redE v P)]) (by simp [results, Tryd.results41, go_sem, z0, z1]) rfl ⟨rfl, (hb.setCell (p := ⟨w.heap.size, 0, none⟩) hl _).setCell (p := ⟨w.heap.size, 1, none⟩) hl _⟩

end Go.Proofs.YtlkfnpmcihfjmaaDoor
