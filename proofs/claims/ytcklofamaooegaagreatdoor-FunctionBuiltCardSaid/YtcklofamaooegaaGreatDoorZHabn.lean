/-
  The claim's own texts, packed. Conditions: those typed in each theorem.
-/
import Derived.Test.YtcklofamaooegaaGreatDoorZHaaw
import Derived.Test.YtcklofamaooegaaGreatDoorZHabk
set_option maxHeartbeats 4000000
set_option maxRecDepth 10000
set_option linter.unusedVariables false
namespace Go.Proofs.YtcklofamaooegaaGreatDoor
open Go.RowKit
theorem atoi_nv (s : ByteArray) (i n : Nat) (w : World) (hs : i + n ≤ s.size) (h1 : 1 ≤ n) (h4 : n ≤ 4) (hz : s.size ≤ 1000) (h : 0 ≤ Cal.nv s i n) :
  Calls Tryz.prog 66 #[.string (s.extract i (i + n))] w fun e w' => e = .returned (.tuple #[.int .i64 (Cal.nv s i n), .nilIface]) ∧ Below w.heap.size w w' := by
 refine (Tryz.strconv_Atoi_ok (s.extract i (i + n)) (by rw [ByteArray.size_extract]; omega) (Cal.nv s i n) (Cal.atoi_cut hs h1 h4 (Cal.nv_neg.1 h)) w).mono ?_
 rintro e w' ⟨rfl, rfl | ⟨t, rfl⟩⟩
 ·exact ⟨rfl, Below.refl _ _⟩
 ·exact ⟨rfl, Lib.bytesWorld_below _ _ _⟩
theorem part_any (s : ByteArray) (i j g : Nat) (v : Int) (w : World) (hi : i ≤ j) (hs : j ≤ s.size) (hz : s.size ≤ 1000) (hc : w.cell? ⟨g, 0, none⟩ = some (.string s))
  (hA : ∀ w, Calls Tryz.prog 66 #[.string (s.extract i j)] w fun e w' => e = .returned (.tuple #[.int .i64 v, .nilIface]) ∧ Below w.heap.size w w') :
  Calls Tryz.prog 65 #[.int .i64 i, .int .i64 j, .pointer (some ⟨g, 0, none⟩)] w fun e w' => e = .returned (.int .i64 v) ∧ Below w.heap.size w w' := by
 go_enter Tryz.func65, Tryz.ntmps65
 go_wp2_with fail
 refine (hA _).mono ?_
 rintro e w1 ⟨rfl, hb1⟩
 go_wp2_with fail
 go_ret
 exact ⟨rfl, hb1⟩
def PartR (s : ByteArray) (g i j : Nat) (v : Int) : Prop := ∀ w : World, Known w g 9 #[.string s] → Calls Tryz.prog 65 #[.int .i64 i, .int .i64 j, .pointer (some ⟨g, 0, none⟩)] w fun e w' => e = .returned (.int .i64 v) ∧ Below w.heap.size w w'
theorem part_nv (s : ByteArray) (g i j n : Nat) (hj : j = i + n) (hs : j ≤ s.size) (h1 : 1 ≤ n) (h4 : n ≤ 4) (hz : s.size ≤ 1000) (h : 0 ≤ Cal.nv s i n) : PartR s g i j (Cal.nv s i n) := by
 subst hj
 exact fun w k => part_any s i (i + n) g _ w (by omega) hs hz k.one (fun w => atoi_nv s i n w hs h1 h4 hz h)
theorem parseP_no (s : ByteArray) (w : World) (hs : s.size ≤ 400) (h1 : ¬ Cal.Shp s Cal.form10) (h2 : ¬ Cal.Shp s Cal.form16) :
  Calls Tryz.prog 30 #[.string s] w fun e w' => e = .returned (.tuple #[.int .i64 0, .int .i64 1]) ∧ Below w.heap.size w w' := by
 have c1 := fun w => shaped_no s Cal.form10 w (by omega) h1
 have c2 := fun w => shaped_no s Cal.form16 w (by omega) h2
 unfold Cal.form10 at c1
 unfold Cal.form16 at c2
 have hb := below_new0 w (.cells #[.string s] 9)
 have K := Known.made w 9 #[.string s]
 have k0 := K.one
 go_enter Tryz.func30, Tryz.ntmps30
 go_wp2_with fail
 refine (c1 _).mono ?_
 rintro e w1 ⟨rfl, hb1⟩
 replace hb := hb.then_ hb1
 replace K := K.on hb1
 have k0 := K.one
 go_wp2_with fail
 refine (c2 _).mono ?_
 rintro e w2 ⟨rfl, hb2⟩
 replace hb := hb.then_ hb2
 go_wp2_with fail
 go_ret2
 exact ⟨rfl, hb⟩
theorem parseP_10 (s : ByteArray) (Y M D : Int) (w : World) (hs : s.size = 10) (h1 : Cal.Shp s Cal.form10) (hY : PartR s w.heap.size 0 4 Y) (hM : PartR s w.heap.size 5 7 M) (hD : PartR s w.heap.size 8 10 D) :
  Calls Tryz.prog 30 #[.string s] w fun e w' => e = .returned (.tuple #[.int .i64 (Cal.minV Y M D 0), .int .i64 (Cal.minE Y M D 0)]) ∧ Below w.heap.size w w' := by
 have c1 := fun w => shaped_yes s Cal.form10 w (by omega) h1
 unfold Cal.form10 at c1
 have hm := fun w => minute_any Y M D 0 w
 generalize Cal.minV Y M D 0 = V at *
 generalize Cal.minE Y M D 0 = E at *
 have hb := below_new0 w (.cells #[.string s] 9)
 have K := Known.made w 9 #[.string s]
 have k0 := K.one
 go_enter Tryz.func30, Tryz.ntmps30
 go_wp2_with fail
 refine (c1 _).mono ?_
 rintro e vc1 ⟨rfl, hbc1⟩
 replace hb := hb.then_ hbc1
 replace K := K.on hbc1
 have k0 := K.one
 go_wp2_with fail
 refine (hY _ K).mono ?_
 rintro e w1 ⟨rfl, hb1⟩
 replace hb := hb.then_ hb1
 replace K := K.on hb1
 go_wp2_with fail
 refine (hM _ K).mono ?_
 rintro e w2 ⟨rfl, hb2⟩
 replace hb := hb.then_ hb2
 replace K := K.on hb2
 go_wp2_with fail
 refine (hD _ K).mono ?_
 rintro e w3 ⟨rfl, hb3⟩
 replace hb := hb.then_ hb3
 go_wp2_with fail
 refine (hm _).mono ?_
 rintro e w4 ⟨rfl, hb4⟩
 replace hb := hb.then_ hb4
 go_wp2_with fail
 go_ret2
 exact ⟨rfl, hb⟩
theorem parseP_16r (s : ByteArray) (H I : Int) (w : World) (hs : s.size = 16) (h1 : ¬ Cal.Shp s Cal.form10) (h2 : Cal.Shp s Cal.form16) (hH : PartR s w.heap.size 11 13 H) (hI : PartR s w.heap.size 14 16 I) (hr : 23 < H ∨ H ≤ 23 ∧ 59 < I) :
  Calls Tryz.prog 30 #[.string s] w fun e w' => e = .returned (.tuple #[.int .i64 0, .int .i64 2]) ∧ Below w.heap.size w w' := by
 have c1 := fun w => shaped_no s Cal.form10 w (by omega) h1
 have c2 := fun w => shaped_yes s Cal.form16 w (by omega) h2
 unfold Cal.form10 at c1
 unfold Cal.form16 at c2
 have hb := below_new0 w (.cells #[.string s] 9)
 have K := Known.made w 9 #[.string s]
 have k0 := K.one
 rcases hr with hr | ⟨hr, hr2⟩
 all_goals
  go_enter Tryz.func30, Tryz.ntmps30
  go_wp2_with fail
  refine (c1 _).mono ?_
  rintro e vc1 ⟨rfl, hbc1⟩
  replace hb := hb.then_ hbc1
  replace K := K.on hbc1
  have k0 := K.one
  go_wp2_with fail
  refine (c2 _).mono ?_
  rintro e vc2 ⟨rfl, hbc2⟩
  replace hb := hb.then_ hbc2
  replace K := K.on hbc2
  have k0 := K.one
  go_wp2_with fail
  refine (hH _ K).mono ?_
  rintro e w1 ⟨rfl, hb1⟩
  replace hb := hb.then_ hb1
  replace K := K.on hb1
  go_wp2_with fail
  refine (hI _ K).mono ?_
  rintro e w2 ⟨rfl, hb2⟩
  replace hb := hb.then_ hb2
  go_wp2_with fail
  go_ret2
  exact ⟨rfl, hb⟩
theorem parseP_16 (s : ByteArray) (Y M D H I : Int) (w : World) (hs : s.size = 16) (h1 : ¬ Cal.Shp s Cal.form10) (h2 : Cal.Shp s Cal.form16) (hY : PartR s w.heap.size 0 4 Y) (hM : PartR s w.heap.size 5 7 M) (hD : PartR s w.heap.size 8 10 D)
  (hH : PartR s w.heap.size 11 13 H) (hI : PartR s w.heap.size 14 16 I) (r1 : 0 ≤ H) (r2 : H ≤ 23) (r3 : 0 ≤ I) (r4 : I ≤ 59) :
  Calls Tryz.prog 30 #[.string s] w fun e w' => e = .returned (.tuple #[.int .i64 (Cal.minV Y M D (H * 60 + I)), .int .i64 (Cal.minE Y M D (H * 60 + I))]) ∧ Below w.heap.size w w' := by
 have c1 := fun w => shaped_no s Cal.form10 w (by omega) h1
 have c2 := fun w => shaped_yes s Cal.form16 w (by omega) h2
 unfold Cal.form10 at c1
 unfold Cal.form16 at c2
 have hm := fun w => minute_any Y M D (H * 60 + I) w
 generalize Cal.minV Y M D (H * 60 + I) = V at *
 generalize Cal.minE Y M D (H * 60 + I) = E at *
 have hb := below_new0 w (.cells #[.string s] 9)
 have K := Known.made w 9 #[.string s]
 have k0 := K.one
 go_enter Tryz.func30, Tryz.ntmps30
 go_wp2_with fail
 refine (c1 _).mono ?_
 rintro e vc1 ⟨rfl, hbc1⟩
 replace hb := hb.then_ hbc1
 replace K := K.on hbc1
 have k0 := K.one
 go_wp2_with fail
 refine (c2 _).mono ?_
 rintro e vc2 ⟨rfl, hbc2⟩
 replace hb := hb.then_ hbc2
 replace K := K.on hbc2
 have k0 := K.one
 go_wp2_with fail
 refine (hH _ K).mono ?_
 rintro e w1 ⟨rfl, hb1⟩
 replace hb := hb.then_ hb1
 replace K := K.on hb1
 go_wp2_with fail
 refine (hI _ K).mono ?_
 rintro e w2 ⟨rfl, hb2⟩
 replace hb := hb.then_ hb2
 replace K := K.on hb2
 go_wp2_with fail
 refine (hY _ K).mono ?_
 rintro e w3 ⟨rfl, hb3⟩
 replace hb := hb.then_ hb3
 replace K := K.on hb3
 go_wp2_with fail
 refine (hM _ K).mono ?_
 rintro e w4 ⟨rfl, hb4⟩
 replace hb := hb.then_ hb4
 replace K := K.on hb4
 go_wp2_with fail
 refine (hD _ K).mono ?_
 rintro e w5 ⟨rfl, hb5⟩
 replace hb := hb.then_ hb5
 go_wp2_with fail
 refine (hm _).mono ?_
 rintro e w6 ⟨rfl, hb6⟩
 replace hb := hb.then_ hb6
 go_wp2_with fail
 go_ret2
 exact ⟨rfl, hb⟩
theorem parse_any (s : ByteArray) (w : World) (hs : s.size ≤ 400) :
  Calls Tryz.prog 30 #[.string s] w fun e w' => e = .returned (.tuple #[.int .i64 (Cal.parV s), .int .i64 (Cal.parE s)]) ∧ Below w.heap.size w w' := by
 by_cases h1 : Cal.Shp s Cal.form10
 ·have hz : s.size = 10 := h1.1
  obtain ⟨-, -, y, m, d⟩ := (Cal.shp10 hz).1 h1
  simp only [Cal.parV, Cal.parE, h1, if_true]
  exact parseP_10 s _ _ _ w hz h1 (part_nv s _ 0 4 4 rfl (by omega) (by omega) (by omega) (by omega) y) (part_nv s _ 5 7 2 rfl (by omega) (by omega) (by omega) (by omega) m) (part_nv s _ 8 10 2 rfl (by omega) (by omega) (by omega) (by omega) d)
 ·by_cases h2 : Cal.Shp s Cal.form16
  ·have hz : s.size = 16 := h2.1
   obtain ⟨-, -, -, -, y, m, d, h, i⟩ := (Cal.shp16 hz).1 h2
   have hH := part_nv s w.heap.size 11 13 2 rfl (by omega) (by omega) (by omega) (by omega) h
   have hI := part_nv s w.heap.size 14 16 2 rfl (by omega) (by omega) (by omega) (by omega) i
   by_cases hr : Cal.nv s 11 2 ≤ 23 ∧ Cal.nv s 14 2 ≤ 59
   ·simp only [Cal.parV, Cal.parE, h1, h2, hr, if_true, if_false, and_self]
    exact parseP_16 s _ _ _ _ _ w hz h1 h2 (part_nv s _ 0 4 4 rfl (by omega) (by omega) (by omega) (by omega) y) (part_nv s _ 5 7 2 rfl (by omega) (by omega) (by omega) (by omega) m) (part_nv s _ 8 10 2 rfl (by omega) (by omega) (by omega) (by omega) d) hH hI h hr.1 i hr.2
   ·simp only [Cal.parV, Cal.parE, h1, h2, hr, if_true, if_false, and_false]
    exact parseP_16r s _ _ w hz h1 h2 hH hI (by omega)
  ·simp only [Cal.parV, Cal.parE, h1, h2, if_false, false_and]
   exact parseP_no s w hs h1 h2
theorem numR (s : ByteArray) (i n : Nat) (w : World) (hs : s.size ≤ 1000) (h : i + n ≤ s.size) (hn : n ≤ 4) :
  Calls Tryz.prog 93 #[.string s, .int .i64 i, .int .i64 n] w fun e w' => e = .returned (.int .i64 (Cal.nv s i n)) ∧ w = w' := by
 have hyes : ∀ k, i ≤ k → k ≤ i + n → (∀ m, i ≤ m → m < k → ∀ hm : m < s.size, Num.isD s[m] = true) → Num.value 0 (Cal.cutL s i (k - i)) < 10000 := by
  intro k h1 h2 h3
  have := Cal.cut_lt (Cal.cut_all (i := i) (k - i) (by omega) (fun m a b hm => h3 m a (by omega) hm))
  have h2 : 10 ^ (k - i) ≤ 10 ^ 4 := Nat.pow_le_pow_right (by omega) (by omega)
  omega
 have hst : ∀ k, i ≤ k → ∀ hk : k < s.size, Num.isD s[k] = true → Num.value 0 (Cal.cutL s i (k + 1 - i)) = Num.value 0 (Cal.cutL s i (k - i)) * 10 + (s[k].toNat - 48) := by
  intro k h1 h2 _
  have e : k + 1 - i = (k - i) + 1 := by omega
  rw [e, Cal.cut_succ (by omega), Num.value_snoc]
  have e2 : i + (k - i) = k := by omega
  simp only [e2]
 have hfin : (∀ m, i ≤ m → m < i + n → ∀ hm : m < s.size, Num.isD s[m] = true) → Cal.nv s i n = (Num.value 0 (Cal.cutL s i (i + n - i)) : Nat) := by
  intro h3
  rw [Cal.nv_yes (Cal.cut_all n h h3)]
  congr 3
  omega
 have hbad : ∀ k, i ≤ k → k < i + n → ∀ hk : k < s.size, Num.isD s[k] = false → Cal.nv s i n = -1 := fun k h1 h2 hk h3 => Cal.nv_no (Cal.cut_bad n h h1 h2 hk h3)
 have h0 : Num.value 0 (Cal.cutL s i (i - i)) = 0 := by simp [Cal.cutL, Num.value_nil]
 generalize Cal.nv s i n = V at *
 generalize hF : (fun k => Num.value 0 (Cal.cutL s i (k - i))) = F at *
 have hF' : ∀ k, Num.value 0 (Cal.cutL s i (k - i)) = F k := fun k => by rw [← hF]
 simp only [hF'] at *
 clear hF hF'
 go_enter Tryz.func93, Tryz.ntmps93
 go_wp2_with fail
 go_loopg [7, 8] (n + 1) (fun g s7 s8 wr => ∃ k : Nat, i ≤ k ∧ k ≤ i + n ∧ i + n - k < g ∧ (∀ m, i ≤ m → m < k → ∀ hm : m < s.size, Num.isD s[m] = true) ∧ s7 = .int .i64 (F k) ∧ s8 = .int .i64 k ∧ w = wr)
 case atStart => exact ⟨i, by omega, by omega, by omega, fun m a b _ => by omega, by rw [h0]; rfl, rfl, rfl⟩
 case round =>
  obtain ⟨k, hk0, hk, hg, hall, rfl, rfl, rfl⟩ := hrel
  have hFk := hyes k hk0 hk hall
  by_cases hlt : k < i + n
  ·have hks : k < s.size := by omega
   cases hd : Num.isD s[k] with
   | true =>
     have h1 := hst k hk0 hks hd
     obtain ⟨h2, h3⟩ := Num.isD_iff.1 hd
     have H := Lib.hid (show ∀ m, i ≤ m → m < k + 1 → ∀ hm : m < s.size, Num.isD s[m] = true by
      intro m a b hm
      by_cases e : m = k
      ·subst e; exact hd
      ·exact hall m a (by omega) hm)
     have g2 : decide (s[k].toNat < 48) = false := by simp; omega
     have g3 : decide (57 < s[k].toNat) = false := by simp; omega
     clear hst hyes hfin hbad h0 hall hd
     go_wp2_with fail
     go_roundg (i + n - (k + 1) + 1)
     case measure => omega
     case rel => exact ⟨k + 1, by omega, by omega, by omega, H.out, by rw [h1]; congr 1; omega, rfl, rfl⟩
   | false =>
     have hv := hbad k hk0 hlt hks hd
     subst hv
     have h2 := mt Num.isD_iff.2 (by rw [hd]; simp)
     clear hst hyes hfin hbad h0 hall hd
     by_cases h3 : s[k].toNat < 48
     ·have g2 : decide (s[k].toNat < 48) = true := by simpa using h3
      go_wp2_with fail
      go_ret
      exact ⟨rfl, rfl⟩
     ·have g2 : decide (s[k].toNat < 48) = false := by simp; omega
      have g3 : decide (57 < s[k].toNat) = true := by simp; omega
      go_wp2_with fail
      go_ret
      exact ⟨rfl, rfl⟩
  ·have hke : k = i + n := by omega
   have hv := hfin (fun m a b hm => hall m a (by omega) hm)
   rw [← hke] at hv
   have hge : i + n ≤ k := by omega
   have hv2 := Lib.hid hv
   clear hst hyes hfin hbad h0 hall hke hv
   go_wp2_with fail
   go_ret
   exact ⟨by rw [hv2.out]; rfl, rfl⟩
def NumR (s : ByteArray) (i n : Int) (v : Int) : Prop := ∀ w : World, Calls Tryz.prog 93 #[.string s, .int .i64 i, .int .i64 n] w fun e w' => e = .returned (.int .i64 v) ∧ w = w'
theorem parR_len (s : ByteArray) (w : World) (hs : s.size ≤ 400) (h1 : s.size ≠ 10) (h2 : s.size ≠ 16) :
  Calls Tryz.prog 42 #[.string s] w fun e w' => e = .returned (.tuple #[.int .i64 0, .int .i64 1]) ∧ Below w.heap.size w w' := by
 have g1 : (s.size == 10) = false := by simpa using h1
 have g2 : (s.size == 16) = false := by simpa using h2
 have g3 : ((s.size : Int) == 10) = false := by simp; omega
 have g4 : ((s.size : Int) == 16) = false := by simp; omega
 go_enter Tryz.func42, Tryz.ntmps42
 go_wp2_with fail
 go_ret2
 exact ⟨rfl, Below.refl _ _⟩
theorem parR_sep (s : ByteArray) (w : World) (hs : s.size = 10 ∨ s.size = 16) (h4 : 4 < s.size) (h7 : 7 < s.size) (h : ¬ s[4].toNat = 45 ∨ s[4].toNat = 45 ∧ ¬ s[7].toNat = 45) :
  Calls Tryz.prog 42 #[.string s] w fun e w' => e = .returned (.tuple #[.int .i64 0, .int .i64 1]) ∧ Below w.heap.size w w' := by
 rcases hs with hs | hs <;> rcases h with h | ⟨h, h'⟩
 all_goals
  go_enter Tryz.func42, Tryz.ntmps42
  go_wp2_with fail
  go_ret2
  exact ⟨rfl, Below.refl _ _⟩
theorem parR_10n (s : ByteArray) (Y M D : Int) (w : World) (hs : s.size = 10) (e4 : s[4].toNat = 45) (e7 : s[7].toNat = 45) (hY : NumR s 0 4 Y) (hM : NumR s 5 2 M) (hD : NumR s 8 2 D)
  (h : Y < 0 ∨ 0 ≤ Y ∧ M < 0 ∨ 0 ≤ Y ∧ 0 ≤ M ∧ D < 0) :
  Calls Tryz.prog 42 #[.string s] w fun e w' => e = .returned (.tuple #[.int .i64 0, .int .i64 1]) ∧ Below w.heap.size w w' := by
 unfold NumR at hY hM hD
 rcases h with h | ⟨h, h'⟩ | ⟨h, h', h''⟩
 all_goals
  go_enter Tryz.func42, Tryz.ntmps42
  go_wp2_with fail
  refine (hY _).mono ?_
  rintro e w1 ⟨rfl, rfl⟩
  go_wp2_with fail
  refine (hM _).mono ?_
  rintro e w1 ⟨rfl, rfl⟩
  go_wp2_with fail
  refine (hD _).mono ?_
  rintro e w1 ⟨rfl, rfl⟩
  obtain ⟨f0, f1, f2⟩ := (Known.made w 92 #[.int .i64 Y, .int .i64 M, .int .i64 D]).three
  go_wp2_with fail
  go_ret2
  exact ⟨rfl, below_new0 _ _⟩
theorem parR_10 (s : ByteArray) (Y M D : Int) (w : World) (hs : s.size = 10) (e4 : s[4].toNat = 45) (e7 : s[7].toNat = 45) (hY : NumR s 0 4 Y) (hM : NumR s 5 2 M) (hD : NumR s 8 2 D)
  (h1 : 0 ≤ Y) (h2 : 0 ≤ M) (h3 : 0 ≤ D) :
  Calls Tryz.prog 42 #[.string s] w fun e w' => e = .returned (.tuple #[.int .i64 (Cal.minV Y M D 0), .int .i64 (Cal.minE Y M D 0)]) ∧ Below w.heap.size w w' := by
 unfold NumR at hY hM hD
 have hm := fun w => minute_ref Y M D 0 w
 generalize Cal.minV Y M D 0 = V at *
 generalize Cal.minE Y M D 0 = E at *
 go_enter Tryz.func42, Tryz.ntmps42
 go_wp2_with fail
 refine (hY _).mono ?_
 rintro e w1 ⟨rfl, rfl⟩
 go_wp2_with fail
 refine (hM _).mono ?_
 rintro e w1 ⟨rfl, rfl⟩
 go_wp2_with fail
 refine (hD _).mono ?_
 rintro e w1 ⟨rfl, rfl⟩
 obtain ⟨f0, f1, f2⟩ := (Known.made w 92 #[.int .i64 Y, .int .i64 M, .int .i64 D]).three
 go_wp2_with fail
 refine (hm _).mono ?_
 rintro e w4 ⟨rfl, hb4⟩
 go_wp2_with fail
 go_ret2
 exact ⟨rfl, (below_new0 _ _).then_ hb4⟩
theorem parR_16s (s : ByteArray) (Y M D : Int) (w : World) (hs : s.size = 16) (e4 : s[4].toNat = 45) (e7 : s[7].toNat = 45) (hY : NumR s 0 4 Y) (hM : NumR s 5 2 M) (hD : NumR s 8 2 D)
  (h : ¬ s[10].toNat = 32 ∨ s[10].toNat = 32 ∧ ¬ s[13].toNat = 58) :
  Calls Tryz.prog 42 #[.string s] w fun e w' => e = .returned (.tuple #[.int .i64 0, .int .i64 1]) ∧ Below w.heap.size w w' := by
 unfold NumR at hY hM hD
 rcases h with h | ⟨h, h'⟩
 all_goals
  go_enter Tryz.func42, Tryz.ntmps42
  go_wp2_with fail
  refine (hY _).mono ?_
  rintro e w1 ⟨rfl, rfl⟩
  go_wp2_with fail
  refine (hM _).mono ?_
  rintro e w1 ⟨rfl, rfl⟩
  go_wp2_with fail
  refine (hD _).mono ?_
  rintro e w1 ⟨rfl, rfl⟩
  obtain ⟨f0, f1, f2⟩ := (Known.made w 92 #[.int .i64 Y, .int .i64 M, .int .i64 D]).three
  go_wp2_with fail
  go_ret2
  exact ⟨rfl, below_new0 _ _⟩
theorem parR_16n (s : ByteArray) (Y M D H I : Int) (w : World) (hs : s.size = 16) (e4 : s[4].toNat = 45) (e7 : s[7].toNat = 45) (e10 : s[10].toNat = 32) (e13 : s[13].toNat = 58) (hY : NumR s 0 4 Y) (hM : NumR s 5 2 M) (hD : NumR s 8 2 D) (hH : NumR s 11 2 H) (hI : NumR s 14 2 I)
  (h : Y < 0 ∨ 0 ≤ Y ∧ M < 0 ∨ 0 ≤ Y ∧ 0 ≤ M ∧ D < 0 ∨ 0 ≤ Y ∧ 0 ≤ M ∧ 0 ≤ D ∧ H < 0 ∨ 0 ≤ Y ∧ 0 ≤ M ∧ 0 ≤ D ∧ 0 ≤ H ∧ I < 0) :
  Calls Tryz.prog 42 #[.string s] w fun e w' => e = .returned (.tuple #[.int .i64 0, .int .i64 1]) ∧ Below w.heap.size w w' := by
 unfold NumR at hY hM hD hH hI
 rcases h with h | ⟨h, h'⟩ | ⟨h, h', h''⟩ | ⟨h, h', h'', h3⟩ | ⟨h, h', h'', h3, h4⟩
 all_goals
  go_enter Tryz.func42, Tryz.ntmps42
  go_wp2_with fail
  refine (hY _).mono ?_
  rintro e w1 ⟨rfl, rfl⟩
  go_wp2_with fail
  refine (hM _).mono ?_
  rintro e w1 ⟨rfl, rfl⟩
  go_wp2_with fail
  refine (hD _).mono ?_
  rintro e w1 ⟨rfl, rfl⟩
  obtain ⟨f0, f1, f2⟩ := (Known.made w 92 #[.int .i64 Y, .int .i64 M, .int .i64 D]).three
  go_wp2_with fail
  refine (hH _).mono ?_
  rintro e w1 ⟨rfl, rfl⟩
  go_wp2_with fail
  refine (hI _).mono ?_
  rintro e w1 ⟨rfl, rfl⟩
  go_wp2_with fail
  go_ret2
  exact ⟨rfl, below_new0 _ _⟩
theorem parR_16r (s : ByteArray) (Y M D H I : Int) (w : World) (hs : s.size = 16) (e4 : s[4].toNat = 45) (e7 : s[7].toNat = 45) (e10 : s[10].toNat = 32) (e13 : s[13].toNat = 58) (hY : NumR s 0 4 Y) (hM : NumR s 5 2 M) (hD : NumR s 8 2 D) (hH : NumR s 11 2 H) (hI : NumR s 14 2 I)
  (y : 0 ≤ Y) (m : 0 ≤ M) (d : 0 ≤ D) (h : 0 ≤ H) (i : 0 ≤ I) (hr : 23 < H ∨ H ≤ 23 ∧ 59 < I) :
  Calls Tryz.prog 42 #[.string s] w fun e w' => e = .returned (.tuple #[.int .i64 0, .int .i64 2]) ∧ Below w.heap.size w w' := by
 unfold NumR at hY hM hD hH hI
 rcases hr with hr | ⟨hr, hr'⟩
 all_goals
  go_enter Tryz.func42, Tryz.ntmps42
  go_wp2_with fail
  refine (hY _).mono ?_
  rintro e w1 ⟨rfl, rfl⟩
  go_wp2_with fail
  refine (hM _).mono ?_
  rintro e w1 ⟨rfl, rfl⟩
  go_wp2_with fail
  refine (hD _).mono ?_
  rintro e w1 ⟨rfl, rfl⟩
  obtain ⟨f0, f1, f2⟩ := (Known.made w 92 #[.int .i64 Y, .int .i64 M, .int .i64 D]).three
  go_wp2_with fail
  refine (hH _).mono ?_
  rintro e w1 ⟨rfl, rfl⟩
  go_wp2_with fail
  refine (hI _).mono ?_
  rintro e w1 ⟨rfl, rfl⟩
  go_wp2_with fail
  go_ret2
  exact ⟨rfl, below_new0 _ _⟩
theorem parR_16 (s : ByteArray) (Y M D H I : Int) (w : World) (hs : s.size = 16) (e4 : s[4].toNat = 45) (e7 : s[7].toNat = 45) (e10 : s[10].toNat = 32) (e13 : s[13].toNat = 58) (hY : NumR s 0 4 Y) (hM : NumR s 5 2 M) (hD : NumR s 8 2 D) (hH : NumR s 11 2 H) (hI : NumR s 14 2 I)
  (y : 0 ≤ Y) (m : 0 ≤ M) (d : 0 ≤ D) (h : 0 ≤ H) (i : 0 ≤ I) (hr : H ≤ 23) (hr' : I ≤ 59) :
  Calls Tryz.prog 42 #[.string s] w fun e w' => e = .returned (.tuple #[.int .i64 (Cal.minV Y M D (H * 60 + I)), .int .i64 (Cal.minE Y M D (H * 60 + I))]) ∧ Below w.heap.size w w' := by
 unfold NumR at hY hM hD hH hI
 have hm := fun w => minute_ref Y M D (H * 60 + I) w
 generalize Cal.minV Y M D (H * 60 + I) = V at *
 generalize Cal.minE Y M D (H * 60 + I) = E at *
 go_enter Tryz.func42, Tryz.ntmps42
 go_wp2_with fail
 refine (hY _).mono ?_
 rintro e w1 ⟨rfl, rfl⟩
 go_wp2_with fail
 refine (hM _).mono ?_
 rintro e w1 ⟨rfl, rfl⟩
 go_wp2_with fail
 refine (hD _).mono ?_
 rintro e w1 ⟨rfl, rfl⟩
 obtain ⟨f0, f1, f2⟩ := (Known.made w 92 #[.int .i64 Y, .int .i64 M, .int .i64 D]).three
 go_wp2_with fail
 refine (hH _).mono ?_
 rintro e w1 ⟨rfl, rfl⟩
 go_wp2_with fail
 refine (hI _).mono ?_
 rintro e w1 ⟨rfl, rfl⟩
 go_wp2_with fail
 refine (hm _).mono ?_
 rintro e w4 ⟨rfl, hb4⟩
 go_wp2_with fail
 go_ret2
 exact ⟨rfl, (below_new0 _ _).then_ hb4⟩
theorem parse_ref (s : ByteArray) (w : World) (hs : s.size ≤ 400) :
  Calls Tryz.prog 42 #[.string s] w fun e w' => e = .returned (.tuple #[.int .i64 (Cal.parV s), .int .i64 (Cal.parE s)]) ∧ Below w.heap.size w w' := by
 have N : ∀ i n : Nat, i + n ≤ s.size → n ≤ 4 → NumR s i n (Cal.nv s i n) := fun i n h1 h2 w => numR s i n w (by omega) h1 h2
 by_cases z1 : s.size = 10
 ·have hY := N 0 4 (by omega) (by omega)
  have hM := N 5 2 (by omega) (by omega)
  have hD := N 8 2 (by omega) (by omega)
  have h2 : ¬ Cal.Shp s Cal.form16 := fun h => by have := h.1; rw [z1] at this; exact absurd this (by decide)
  by_cases h1 : Cal.Shp s Cal.form10
  ·obtain ⟨e4, e7, y, m, d⟩ := (Cal.shp10 z1).1 h1
   simp only [Cal.parV, Cal.parE, h1, if_true]
   exact parR_10 s _ _ _ w z1 e4 e7 hY hM hD y m d
  ·have h3 := mt (Cal.shp10 z1).2 h1
   simp only [Cal.parV, Cal.parE, h1, h2, if_false, false_and]
   by_cases e4 : s[4].toNat = 45
   ·by_cases e7 : s[7].toNat = 45
    ·exact parR_10n s _ _ _ w z1 e4 e7 hY hM hD (by omega)
    ·exact parR_sep s w (.inl z1) (by omega) (by omega) (.inr ⟨e4, e7⟩)
   ·exact parR_sep s w (.inl z1) (by omega) (by omega) (.inl e4)
 ·have h1 : ¬ Cal.Shp s Cal.form10 := fun h => z1 (h.1.trans (by decide))
  by_cases z2 : s.size = 16
  ·have hY := N 0 4 (by omega) (by omega)
   have hM := N 5 2 (by omega) (by omega)
   have hD := N 8 2 (by omega) (by omega)
   have hH := N 11 2 (by omega) (by omega)
   have hI := N 14 2 (by omega) (by omega)
   by_cases h2 : Cal.Shp s Cal.form16
   ·obtain ⟨e4, e7, e10, e13, y, m, d, h, i⟩ := (Cal.shp16 z2).1 h2
    by_cases hr : Cal.nv s 11 2 ≤ 23 ∧ Cal.nv s 14 2 ≤ 59
    ·simp only [Cal.parV, Cal.parE, h1, h2, hr, if_true, if_false, and_self]
     exact parR_16 s _ _ _ _ _ w z2 e4 e7 e10 e13 hY hM hD hH hI y m d h i hr.1 hr.2
    ·simp only [Cal.parV, Cal.parE, h1, h2, hr, if_true, if_false, and_false]
     exact parR_16r s _ _ _ _ _ w z2 e4 e7 e10 e13 hY hM hD hH hI y m d h i (by omega)
   ·have h3 := mt (Cal.shp16 z2).2 h2
    simp only [Cal.parV, Cal.parE, h1, h2, if_false, false_and]
    by_cases e4 : s[4].toNat = 45
    ·by_cases e7 : s[7].toNat = 45
     ·by_cases e10 : s[10].toNat = 32
      ·by_cases e13 : s[13].toNat = 58
       ·exact parR_16n s _ _ _ _ _ w z2 e4 e7 e10 e13 hY hM hD hH hI (by omega)
       ·exact parR_16s s _ _ _ w z2 e4 e7 hY hM hD (.inr ⟨e10, e13⟩)
      ·exact parR_16s s _ _ _ w z2 e4 e7 hY hM hD (.inl e10)
     ·exact parR_sep s w (.inr z2) (by omega) (by omega) (.inr ⟨e4, e7⟩)
    ·exact parR_sep s w (.inr z2) (by omega) (by omega) (.inl e4)
  ·have h2 : ¬ Cal.Shp s Cal.form16 := fun h => z2 (h.1.trans (by decide))
   simp only [Cal.parV, Cal.parE, h1, h2, if_false, false_and]
   exact parR_len s w hs z1 z2
end Go.Proofs.YtcklofamaooegaaGreatDoor
