/-
  The claim's own texts, packed. Conditions: those typed in each theorem.
-/
import Derived.Test.YtcklofamaooegaaGreatDoorZKaaw
import Derived.Test.YtcklofamaooegaaGreatDoorZKabk
set_option maxHeartbeats 4000000
set_option maxRecDepth 10000
set_option linter.unusedVariables false
namespace Go.Proofs.YtcklofamaooegaaGreatDoor
open Go.RowKit
theorem atoi_nv (s : ByteArray) (i n : Nat) (w : World) (hs : i + n ≤ s.size) (h1 : 1 ≤ n) (h4 : n ≤ 4) (hz : s.size ≤ 1000) (h : 0 ≤ Cal.nv s i n) :
  Calls Tryz.prog 66 #[.string (s.extract i (i + n))] w fun e w' => e = .returned (.tuple #[.int .i64 (Cal.nv s i n), .nilIface]) ∧ Below w.heap.size w w' := by
 refine (Tryz.strconv_Atoi_ok (s.extract i (i + n)) (by rw [ByteArray.size_extract]; omega) (Cal.nv s i n) (Cal.atoi_cut hs h1 h4 (Cal.nv_neg.1 h)) w).mono ?_
 rintro e w' ⟨rfl, rfl | ⟨t, rfl⟩⟩
 ·exact ⟨rfl, Below.refl _ _⟩
 ·exact ⟨rfl, Lib.bytesWorld_below _ _ _⟩
theorem part_any (s : ByteArray) (i j g : Nat) (v : Int) (w : World) (hi : i ≤ j) (hs : j ≤ s.size) (hz : s.size ≤ 1000) (hc : w.cell? ⟨g, 0, none⟩ = some (.string s))
  (hA : ∀ w, Calls Tryz.prog 66 #[.string (s.extract i j)] w fun e w' => e = .returned (.tuple #[.int .i64 v, .nilIface]) ∧ Below w.heap.size w w') :
  Calls Tryz.prog 65 #[.int .i64 i, .int .i64 j, .pointer (some ⟨g, 0, none⟩)] w fun e w' => e = .returned (.int .i64 v) ∧ Below w.heap.size w w' := by
 go_enter Tryz.func65, Tryz.ntmps65
 go_wp2_with fail
 refine (hA _).mono ?_
 rintro e w1 ⟨rfl, hb1⟩
 go_wp2_with fail
 go_ret
 exact ⟨rfl, hb1⟩
def PartR (s : ByteArray) (g i j : Nat) (v : Int) : Prop := ∀ w : World, Known w g 9 #[.string s] → Calls Tryz.prog 65 #[.int .i64 i, .int .i64 j, .pointer (some ⟨g, 0, none⟩)] w fun e w' => e = .returned (.int .i64 v) ∧ Below w.heap.size w w'
theorem part_nv (s : ByteArray) (g i j n : Nat) (hj : j = i + n) (hs : j ≤ s.size) (h1 : 1 ≤ n) (h4 : n ≤ 4) (hz : s.size ≤ 1000) (h : 0 ≤ Cal.nv s i n) : PartR s g i j (Cal.nv s i n) := by
 subst hj
 exact fun w k => part_any s i (i + n) g _ w (by omega) hs hz k.one (fun w => atoi_nv s i n w hs h1 h4 hz h)
theorem parseP_no (s : ByteArray) (w : World) (hs : s.size ≤ 400) (h1 : ¬ Cal.Shp s Cal.form10) (h2 : ¬ Cal.Shp s Cal.form16) :
  Calls Tryz.prog 30 #[.string s] w fun e w' => e = .returned (.tuple #[.int .i64 0, .int .i64 1]) ∧ Below w.heap.size w w' := by
 have c1 := fun w => shaped_no s Cal.form10 w (by omega) h1
 have c2 := fun w => shaped_no s Cal.form16 w (by omega) h2
 unfold Cal.form10 at c1
 unfold Cal.form16 at c2
 have hb := below_new0 w (.cells #[.string s] 9)
 have K := Known.made w 9 #[.string s]
 have k0 := K.one
 go_enter Tryz.func30, Tryz.ntmps30
 go_wp2_with fail
 refine (c1 _).mono ?_
 rintro e w1 ⟨rfl, hb1⟩
 replace hb := hb.then_ hb1
 replace K := K.on hb1
 have k0 := K.one
 go_wp2_with fail
 refine (c2 _).mono ?_
 rintro e w2 ⟨rfl, hb2⟩
 replace hb := hb.then_ hb2
 go_wp2_with fail
 go_ret2
 exact ⟨rfl, hb⟩
theorem parseP_10 (s : ByteArray) (Y M D : Int) (w : World) (hs : s.size = 10) (h1 : Cal.Shp s Cal.form10) (hY : PartR s w.heap.size 0 4 Y) (hM : PartR s w.heap.size 5 7 M) (hD : PartR s w.heap.size 8 10 D) :
  Calls Tryz.prog 30 #[.string s] w fun e w' => e = .returned (.tuple #[.int .i64 (Cal.minV Y M D 0), .int .i64 (Cal.minE Y M D 0)]) ∧ Below w.heap.size w w' := by
 have c1 := fun w => shaped_yes s Cal.form10 w (by omega) h1
 unfold Cal.form10 at c1
 have hm := fun w => minute_any Y M D 0 w
 generalize Cal.minV Y M D 0 = V at *
 generalize Cal.minE Y M D 0 = E at *
 have hb := below_new0 w (.cells #[.string s] 9)
 have K := Known.made w 9 #[.string s]
 have k0 := K.one
 go_enter Tryz.func30, Tryz.ntmps30
 go_wp2_with fail
 refine (c1 _).mono ?_
 rintro e vc1 ⟨rfl, hbc1⟩
 replace hb := hb.then_ hbc1
 replace K := K.on hbc1
 have k0 := K.one
 go_wp2_with fail
 refine (hY _ K).mono ?_
 rintro e w1 ⟨rfl, hb1⟩
 replace hb := hb.then_ hb1
 replace K := K.on hb1
 go_wp2_with fail
 refine (hM _ K).mono ?_
 rintro e w2 ⟨rfl, hb2⟩
 replace hb := hb.then_ hb2
 replace K := K.on hb2
 go_wp2_with fail
 refine (hD _ K).mono ?_
 rintro e w3 ⟨rfl, hb3⟩
 replace hb := hb.then_ hb3
 go_wp2_with fail
 refine (hm _).mono ?_
 rintro e w4 ⟨rfl, hb4⟩
 replace hb := hb.then_ hb4
 go_wp2_with fail
 go_ret2
 exact ⟨rfl, hb⟩
theorem parseP_16r (s : ByteArray) (H I : Int) (w : World) (hs : s.size = 16) (h1 : ¬ Cal.Shp s Cal.form10) (h2 : Cal.Shp s Cal.form16) (hH : PartR s w.heap.size 11 13 H) (hI : PartR s w.heap.size 14 16 I) (hr : 23 < H ∨ H ≤ 23 ∧ 59 < I) :
  Calls Tryz.prog 30 #[.string s] w fun e w' => e = .returned (.tuple #[.int .i64 0, .int .i64 2]) ∧ Below w.heap.size w w' := by
 have c1 := fun w => shaped_no s Cal.form10 w (by omega) h1
 have c2 := fun w => shaped_yes s Cal.form16 w (by omega) h2
 unfold Cal.form10 at c1
 unfold Cal.form16 at c2
 have hb := below_new0 w (.cells #[.string s] 9)
 have K := Known.made w 9 #[.string s]
 have k0 := K.one
 rcases hr with hr | ⟨hr, hr2⟩
 all_goals
  go_enter Tryz.func30, Tryz.ntmps30
  go_wp2_with fail
  refine (c1 _).mono ?_
  rintro e vc1 ⟨rfl, hbc1⟩
  replace hb := hb.then_ hbc1
  replace K := K.on hbc1
  have k0 := K.one
  go_wp2_with fail
  refine (c2 _).mono ?_
  rintro e vc2 ⟨rfl, hbc2⟩
  replace hb := hb.then_ hbc2
  replace K := K.on hbc2
  have k0 := K.one
  go_wp2_with fail
  refine (hH _ K).mono ?_
  rintro e w1 ⟨rfl, hb1⟩
  replace hb := hb.then_ hb1
  replace K := K.on hb1
  go_wp2_with fail
  refine (hI _ K).mono ?_
  rintro e w2 ⟨rfl, hb2⟩
  replace hb := hb.then_ hb2
  go_wp2_with fail
  go_ret2
  exact ⟨rfl, hb⟩
theorem parseP_16 (s : ByteArray) (Y M D H I : Int) (w : World) (hs : s.size = 16) (h1 : ¬ Cal.Shp s Cal.form10) (h2 : Cal.Shp s Cal.form16) (hY : PartR s w.heap.size 0 4 Y) (hM : PartR s w.heap.size 5 7 M) (hD : PartR s w.heap.size 8 10 D)
  (hH : PartR s w.heap.size 11 13 H) (hI : PartR s w.heap.size 14 16 I) (r1 : 0 ≤ H) (r2 : H ≤ 23) (r3 : 0 ≤ I) (r4 : I ≤ 59) :
  Calls Tryz.prog 30 #[.string s] w fun e w' => e = .returned (.tuple #[.int .i64 (Cal.minV Y M D (H * 60 + I)), .int .i64 (Cal.minE Y M D (H * 60 + I))]) ∧ Below w.heap.size w w' := by
 have c1 := fun w => shaped_no s Cal.form10 w (by omega) h1
 have c2 := fun w => shaped_yes s Cal.form16 w (by omega) h2
 unfold Cal.form10 at c1
 unfold Cal.form16 at c2
 have hm := fun w => minute_any Y M D (H * 60 + I) w
 generalize Cal.minV Y M D (H * 60 + I) = V at *
 generalize Cal.minE Y M D (H * 60 + I) = E at *
 have hb := below_new0 w (.cells #[.string s] 9)
 have K := Known.made w 9 #[.string s]
 have k0 := K.one
 go_enter Tryz.func30, Tryz.ntmps30
 go_wp2_with fail
 refine (c1 _).mono ?_
 rintro e vc1 ⟨rfl, hbc1⟩
 replace hb := hb.then_ hbc1
 replace K := K.on hbc1
 have k0 := K.one
 go_wp2_with fail
 refine (c2 _).mono ?_
 rintro e vc2 ⟨rfl, hbc2⟩
 replace hb := hb.then_ hbc2
 replace K := K.on hbc2
 have k0 := K.one
 go_wp2_with fail
 refine (hH _ K).mono ?_
 rintro e w1 ⟨rfl, hb1⟩
 replace hb := hb.then_ hb1
 replace K := K.on hb1
 go_wp2_with fail
 refine (hI _ K).mono ?_
 rintro e w2 ⟨rfl, hb2⟩
 replace hb := hb.then_ hb2
 replace K := K.on hb2
 go_wp2_with fail
 refine (hY _ K).mono ?_
 rintro e w3 ⟨rfl, hb3⟩
 replace hb := hb.then_ hb3
 replace K := K.on hb3
 go_wp2_with fail
 refine (hM _ K).mono ?_
 rintro e w4 ⟨rfl, hb4⟩
 replace hb := hb.then_ hb4
 replace K := K.on hb4
 go_wp2_with fail
 refine (hD _ K).mono ?_
 rintro e w5 ⟨rfl, hb5⟩
 replace hb := hb.then_ hb5
 go_wp2_with fail
 refine (hm _).mono ?_
 rintro e w6 ⟨rfl, hb6⟩
 replace hb := hb.then_ hb6
 go_wp2_with fail
 go_ret2
 exact ⟨rfl, hb⟩
theorem parse_any (s : ByteArray) (w : World) (hs : s.size ≤ 400) :
  Calls Tryz.prog 30 #[.string s] w fun e w' => e = .returned (.tuple #[.int .i64 (Cal.parV s), .int .i64 (Cal.parE s)]) ∧ Below w.heap.size w w' := by
 by_cases h1 : Cal.Shp s Cal.form10
 ·have hz : s.size = 10 := h1.1
  obtain ⟨-, -, y, m, d⟩ := (Cal.shp10 hz).1 h1
  simp only [Cal.parV, Cal.parE, h1, if_true]
  exact parseP_10 s _ _ _ w hz h1 (part_nv s _ 0 4 4 rfl (by omega) (by omega) (by omega) (by omega) y) (part_nv s _ 5 7 2 rfl (by omega) (by omega) (by omega) (by omega) m) (part_nv s _ 8 10 2 rfl (by omega) (by omega) (by omega) (by omega) d)
 ·by_cases h2 : Cal.Shp s Cal.form16
  ·have hz : s.size = 16 := h2.1
   obtain ⟨-, -, -, -, y, m, d, h, i⟩ := (Cal.shp16 hz).1 h2
   have hH := part_nv s w.heap.size 11 13 2 rfl (by omega) (by omega) (by omega) (by omega) h
   have hI := part_nv s w.heap.size 14 16 2 rfl (by omega) (by omega) (by omega) (by omega) i
   by_cases hr : Cal.nv s 11 2 ≤ 23 ∧ Cal.nv s 14 2 ≤ 59
   ·simp only [Cal.parV, Cal.parE, h1, h2, hr, if_true, if_false, and_self]
    exact parseP_16 s _ _ _ _ _ w hz h1 h2 (part_nv s _ 0 4 4 rfl (by omega) (by omega) (by omega) (by omega) y) (part_nv s _ 5 7 2 rfl (by omega) (by omega) (by omega) (by omega) m) (part_nv s _ 8 10 2 rfl (by omega) (by omega) (by omega) (by omega) d) hH hI h hr.1 i hr.2
   ·simp only [Cal.parV, Cal.parE, h1, h2, hr, if_true, if_false, and_false]
    exact parseP_16r s _ _ w hz h1 h2 hH hI (by omega)
  ·simp only [Cal.parV, Cal.parE, h1, h2, if_false, false_and]
   exact parseP_no s w hs h1 h2
end Go.Proofs.YtcklofamaooegaaGreatDoor
