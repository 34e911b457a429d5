/-
  What a code of the calendar stands for, by the program. Condition: the code is one; the instant is one; the library's table of powers of ten as it is laid.
-/
import Derived.Test.YtdemfbaaimockaaDoorCalNames
namespace Go.Proofs.YtdemfbaaimockaaDoor
open Go.RowKit

theorem text_take (l : List UInt8) (k : Nat) : (ByteArray.mk l.toArray).extract 0 k = ⟨(l.take k).toArray⟩ := by
  apply ByteArray.ext
  simp

set_option maxHeartbeats 1000000 in
theorem value_89 (n : Int) (w : World) (hn : instB n = true) (ht : Tab w) :
    Calls Tryd.prog 40 #[.int .u8 89, .int .i64 n] w fun e w' => e = .returned (.string ⟨(Cal.val 89 n).toArray⟩) ∧ Below w.heap.size w w' := by
  obtain ⟨h1, h2⟩ := instB_iff.1 hn
  obtain ⟨a1, a2, a3, a4, a5, a6, a7⟩ := Cal.dateOf_spec (n / 1440) (by omega) (by omega)
  have a8 := Cal.dim_bd (Cal.yOf (n / 1440)) (Cal.mOf (n / 1440))
  have a9 := Cal.dby_bd (Cal.yOf (n / 1440)) a1 (by omega)
  have a10 := Cal.cum_bd (Cal.yOf (n / 1440)) (Cal.mOf (n / 1440)) a3 a4
  have a11 := Cal.month_three (Cal.mOf (n / 1440))
  have a12 := Cal.day_three ((n / 1440 + 5) % 7 + 1)
  have a13 : 0 ≤ n / 1440 - Cal.dby (Cal.yOf (n / 1440)) := by omega
  have a14 : n / 1440 - Cal.dby (Cal.yOf (n / 1440)) ≤ 400 := by omega
  clear a7
  go_enter Tryd.func40, Tryd.ntmps40
  go_wp2_with fail
  refine (dateOf_yes n _ hn).mono ?_
  rintro e w1 ⟨rfl, hb1⟩
  have ht1 := ht.on hb1
  go_wp2_with fail
  refine (weekday_yes n _ hn).mono ?_
  rintro e w2 ⟨rfl, rfl⟩
  go_wp2_with fail
  refine (itoa_any _ _ (by omega) (by omega) (ht1.alloc _)).mono ?_
  rintro e w3 ⟨rfl, hb3⟩
  go_wp2_with fail
  go_ret
  exact ⟨by simp [Cal.val], (hb1.trans ((below_new0 _ _).mono hb1.size)).trans (hb3.mono (by have := hb1.size; simp; omega))⟩

set_option maxHeartbeats 1000000 in
theorem value_109 (n : Int) (w : World) (hn : instB n = true) (ht : Tab w) :
    Calls Tryd.prog 40 #[.int .u8 109, .int .i64 n] w fun e w' => e = .returned (.string ⟨(Cal.val 109 n).toArray⟩) ∧ Below w.heap.size w w' := by
  obtain ⟨h1, h2⟩ := instB_iff.1 hn
  obtain ⟨a1, a2, a3, a4, a5, a6, a7⟩ := Cal.dateOf_spec (n / 1440) (by omega) (by omega)
  have a8 := Cal.dim_bd (Cal.yOf (n / 1440)) (Cal.mOf (n / 1440))
  have a9 := Cal.dby_bd (Cal.yOf (n / 1440)) a1 (by omega)
  have a10 := Cal.cum_bd (Cal.yOf (n / 1440)) (Cal.mOf (n / 1440)) a3 a4
  have a11 := Cal.month_three (Cal.mOf (n / 1440))
  have a12 := Cal.day_three ((n / 1440 + 5) % 7 + 1)
  have a13 : 0 ≤ n / 1440 - Cal.dby (Cal.yOf (n / 1440)) := by omega
  have a14 : n / 1440 - Cal.dby (Cal.yOf (n / 1440)) ≤ 400 := by omega
  clear a7
  go_enter Tryd.func40, Tryd.ntmps40
  go_wp2_with fail
  refine (dateOf_yes n _ hn).mono ?_
  rintro e w1 ⟨rfl, hb1⟩
  have ht1 := ht.on hb1
  go_wp2_with fail
  refine (weekday_yes n _ hn).mono ?_
  rintro e w2 ⟨rfl, rfl⟩
  go_wp2_with fail
  refine (two_any _ _ (by omega) (by omega) (ht1.alloc _)).mono ?_
  rintro e w3 ⟨rfl, hb3⟩
  go_wp2_with fail
  go_ret
  exact ⟨by simp [Cal.val], (hb1.trans ((below_new0 _ _).mono hb1.size)).trans (hb3.mono (by have := hb1.size; simp; omega))⟩

set_option maxHeartbeats 1000000 in
theorem value_110 (n : Int) (w : World) (hn : instB n = true) (ht : Tab w) :
    Calls Tryd.prog 40 #[.int .u8 110, .int .i64 n] w fun e w' => e = .returned (.string ⟨(Cal.val 110 n).toArray⟩) ∧ Below w.heap.size w w' := by
  obtain ⟨h1, h2⟩ := instB_iff.1 hn
  obtain ⟨a1, a2, a3, a4, a5, a6, a7⟩ := Cal.dateOf_spec (n / 1440) (by omega) (by omega)
  have a8 := Cal.dim_bd (Cal.yOf (n / 1440)) (Cal.mOf (n / 1440))
  have a9 := Cal.dby_bd (Cal.yOf (n / 1440)) a1 (by omega)
  have a10 := Cal.cum_bd (Cal.yOf (n / 1440)) (Cal.mOf (n / 1440)) a3 a4
  have a11 := Cal.month_three (Cal.mOf (n / 1440))
  have a12 := Cal.day_three ((n / 1440 + 5) % 7 + 1)
  have a13 : 0 ≤ n / 1440 - Cal.dby (Cal.yOf (n / 1440)) := by omega
  have a14 : n / 1440 - Cal.dby (Cal.yOf (n / 1440)) ≤ 400 := by omega
  clear a7
  go_enter Tryd.func40, Tryd.ntmps40
  go_wp2_with fail
  refine (dateOf_yes n _ hn).mono ?_
  rintro e w1 ⟨rfl, hb1⟩
  have ht1 := ht.on hb1
  go_wp2_with fail
  refine (weekday_yes n _ hn).mono ?_
  rintro e w2 ⟨rfl, rfl⟩
  go_wp2_with fail
  refine (itoa_any _ _ (by omega) (by omega) (ht1.alloc _)).mono ?_
  rintro e w3 ⟨rfl, hb3⟩
  go_wp2_with fail
  go_ret
  exact ⟨by simp [Cal.val], (hb1.trans ((below_new0 _ _).mono hb1.size)).trans (hb3.mono (by have := hb1.size; simp; omega))⟩

set_option maxHeartbeats 1000000 in
theorem value_70 (n : Int) (w : World) (hn : instB n = true) (ht : Tab w) :
    Calls Tryd.prog 40 #[.int .u8 70, .int .i64 n] w fun e w' => e = .returned (.string ⟨(Cal.val 70 n).toArray⟩) ∧ Below w.heap.size w w' := by
  obtain ⟨h1, h2⟩ := instB_iff.1 hn
  obtain ⟨a1, a2, a3, a4, a5, a6, a7⟩ := Cal.dateOf_spec (n / 1440) (by omega) (by omega)
  have a8 := Cal.dim_bd (Cal.yOf (n / 1440)) (Cal.mOf (n / 1440))
  have a9 := Cal.dby_bd (Cal.yOf (n / 1440)) a1 (by omega)
  have a10 := Cal.cum_bd (Cal.yOf (n / 1440)) (Cal.mOf (n / 1440)) a3 a4
  have a11 := Cal.month_three (Cal.mOf (n / 1440))
  have a12 := Cal.day_three ((n / 1440 + 5) % 7 + 1)
  have a13 : 0 ≤ n / 1440 - Cal.dby (Cal.yOf (n / 1440)) := by omega
  have a14 : n / 1440 - Cal.dby (Cal.yOf (n / 1440)) ≤ 400 := by omega
  clear a7
  go_enter Tryd.func40, Tryd.ntmps40
  go_wp2_with fail
  refine (dateOf_yes n _ hn).mono ?_
  rintro e w1 ⟨rfl, hb1⟩
  have ht1 := ht.on hb1
  go_wp2_with fail
  refine (weekday_yes n _ hn).mono ?_
  rintro e w2 ⟨rfl, rfl⟩
  go_wp2_with fail
  refine (monthName_any _ _ (by omega) (by omega)).mono ?_
  rintro e w3 ⟨rfl, rfl⟩
  go_wp2_with fail
  go_ret
  exact ⟨by simp [Cal.val], hb1.trans ((below_new0 _ _).mono hb1.size)⟩

set_option maxHeartbeats 1000000 in
theorem value_77 (n : Int) (w : World) (hn : instB n = true) (ht : Tab w) :
    Calls Tryd.prog 40 #[.int .u8 77, .int .i64 n] w fun e w' => e = .returned (.string ⟨(Cal.val 77 n).toArray⟩) ∧ Below w.heap.size w w' := by
  obtain ⟨h1, h2⟩ := instB_iff.1 hn
  obtain ⟨a1, a2, a3, a4, a5, a6, a7⟩ := Cal.dateOf_spec (n / 1440) (by omega) (by omega)
  have a8 := Cal.dim_bd (Cal.yOf (n / 1440)) (Cal.mOf (n / 1440))
  have a9 := Cal.dby_bd (Cal.yOf (n / 1440)) a1 (by omega)
  have a10 := Cal.cum_bd (Cal.yOf (n / 1440)) (Cal.mOf (n / 1440)) a3 a4
  have a11 := Cal.month_three (Cal.mOf (n / 1440))
  have a12 := Cal.day_three ((n / 1440 + 5) % 7 + 1)
  have a13 : 0 ≤ n / 1440 - Cal.dby (Cal.yOf (n / 1440)) := by omega
  have a14 : n / 1440 - Cal.dby (Cal.yOf (n / 1440)) ≤ 400 := by omega
  clear a7
  go_enter Tryd.func40, Tryd.ntmps40
  go_wp2_with fail
  refine (dateOf_yes n _ hn).mono ?_
  rintro e w1 ⟨rfl, hb1⟩
  have ht1 := ht.on hb1
  go_wp2_with fail
  refine (weekday_yes n _ hn).mono ?_
  rintro e w2 ⟨rfl, rfl⟩
  go_wp2_with fail
  refine (monthName_any _ _ (by omega) (by omega)).mono ?_
  rintro e w3 ⟨rfl, rfl⟩
  go_wp2_with fail
  go_ret
  exact ⟨by simp [Cal.val, text_take], hb1.trans ((below_new0 _ _).mono hb1.size)⟩

set_option maxHeartbeats 1000000 in
theorem value_100 (n : Int) (w : World) (hn : instB n = true) (ht : Tab w) :
    Calls Tryd.prog 40 #[.int .u8 100, .int .i64 n] w fun e w' => e = .returned (.string ⟨(Cal.val 100 n).toArray⟩) ∧ Below w.heap.size w w' := by
  obtain ⟨h1, h2⟩ := instB_iff.1 hn
  obtain ⟨a1, a2, a3, a4, a5, a6, a7⟩ := Cal.dateOf_spec (n / 1440) (by omega) (by omega)
  have a8 := Cal.dim_bd (Cal.yOf (n / 1440)) (Cal.mOf (n / 1440))
  have a9 := Cal.dby_bd (Cal.yOf (n / 1440)) a1 (by omega)
  have a10 := Cal.cum_bd (Cal.yOf (n / 1440)) (Cal.mOf (n / 1440)) a3 a4
  have a11 := Cal.month_three (Cal.mOf (n / 1440))
  have a12 := Cal.day_three ((n / 1440 + 5) % 7 + 1)
  have a13 : 0 ≤ n / 1440 - Cal.dby (Cal.yOf (n / 1440)) := by omega
  have a14 : n / 1440 - Cal.dby (Cal.yOf (n / 1440)) ≤ 400 := by omega
  clear a7
  go_enter Tryd.func40, Tryd.ntmps40
  go_wp2_with fail
  refine (dateOf_yes n _ hn).mono ?_
  rintro e w1 ⟨rfl, hb1⟩
  have ht1 := ht.on hb1
  go_wp2_with fail
  refine (weekday_yes n _ hn).mono ?_
  rintro e w2 ⟨rfl, rfl⟩
  go_wp2_with fail
  refine (two_any _ _ (by omega) (by omega) (ht1.alloc _)).mono ?_
  rintro e w3 ⟨rfl, hb3⟩
  go_wp2_with fail
  go_ret
  exact ⟨by simp [Cal.val], (hb1.trans ((below_new0 _ _).mono hb1.size)).trans (hb3.mono (by have := hb1.size; simp; omega))⟩

set_option maxHeartbeats 1000000 in
theorem value_106 (n : Int) (w : World) (hn : instB n = true) (ht : Tab w) :
    Calls Tryd.prog 40 #[.int .u8 106, .int .i64 n] w fun e w' => e = .returned (.string ⟨(Cal.val 106 n).toArray⟩) ∧ Below w.heap.size w w' := by
  obtain ⟨h1, h2⟩ := instB_iff.1 hn
  obtain ⟨a1, a2, a3, a4, a5, a6, a7⟩ := Cal.dateOf_spec (n / 1440) (by omega) (by omega)
  have a8 := Cal.dim_bd (Cal.yOf (n / 1440)) (Cal.mOf (n / 1440))
  have a9 := Cal.dby_bd (Cal.yOf (n / 1440)) a1 (by omega)
  have a10 := Cal.cum_bd (Cal.yOf (n / 1440)) (Cal.mOf (n / 1440)) a3 a4
  have a11 := Cal.month_three (Cal.mOf (n / 1440))
  have a12 := Cal.day_three ((n / 1440 + 5) % 7 + 1)
  have a13 : 0 ≤ n / 1440 - Cal.dby (Cal.yOf (n / 1440)) := by omega
  have a14 : n / 1440 - Cal.dby (Cal.yOf (n / 1440)) ≤ 400 := by omega
  clear a7
  go_enter Tryd.func40, Tryd.ntmps40
  go_wp2_with fail
  refine (dateOf_yes n _ hn).mono ?_
  rintro e w1 ⟨rfl, hb1⟩
  have ht1 := ht.on hb1
  go_wp2_with fail
  refine (weekday_yes n _ hn).mono ?_
  rintro e w2 ⟨rfl, rfl⟩
  go_wp2_with fail
  refine (itoa_any _ _ (by omega) (by omega) (ht1.alloc _)).mono ?_
  rintro e w3 ⟨rfl, hb3⟩
  go_wp2_with fail
  go_ret
  exact ⟨by simp [Cal.val], (hb1.trans ((below_new0 _ _).mono hb1.size)).trans (hb3.mono (by have := hb1.size; simp; omega))⟩

set_option maxHeartbeats 1000000 in
theorem value_122 (n : Int) (w : World) (hn : instB n = true) (ht : Tab w) :
    Calls Tryd.prog 40 #[.int .u8 122, .int .i64 n] w fun e w' => e = .returned (.string ⟨(Cal.val 122 n).toArray⟩) ∧ Below w.heap.size w w' := by
  obtain ⟨h1, h2⟩ := instB_iff.1 hn
  obtain ⟨a1, a2, a3, a4, a5, a6, a7⟩ := Cal.dateOf_spec (n / 1440) (by omega) (by omega)
  have a8 := Cal.dim_bd (Cal.yOf (n / 1440)) (Cal.mOf (n / 1440))
  have a9 := Cal.dby_bd (Cal.yOf (n / 1440)) a1 (by omega)
  have a10 := Cal.cum_bd (Cal.yOf (n / 1440)) (Cal.mOf (n / 1440)) a3 a4
  have a11 := Cal.month_three (Cal.mOf (n / 1440))
  have a12 := Cal.day_three ((n / 1440 + 5) % 7 + 1)
  have a13 : 0 ≤ n / 1440 - Cal.dby (Cal.yOf (n / 1440)) := by omega
  have a14 : n / 1440 - Cal.dby (Cal.yOf (n / 1440)) ≤ 400 := by omega
  clear a7
  go_enter Tryd.func40, Tryd.ntmps40
  go_wp2_with fail
  refine (dateOf_yes n _ hn).mono ?_
  rintro e w1 ⟨rfl, hb1⟩
  have ht1 := ht.on hb1
  go_wp2_with fail
  refine (weekday_yes n _ hn).mono ?_
  rintro e w2 ⟨rfl, rfl⟩
  go_wp2_with fail
  refine (before_any _ _ (by omega) (by omega)).mono ?_
  rintro e w2 ⟨rfl, rfl⟩
  go_wp2_with fail
  refine (itoa_any _ _ (by omega) (by omega) (ht1.alloc _)).mono ?_
  rintro e w3 ⟨rfl, hb3⟩
  go_wp2_with fail
  go_ret
  exact ⟨by simp [Cal.val], (hb1.trans ((below_new0 _ _).mono hb1.size)).trans (hb3.mono (by have := hb1.size; simp; omega))⟩

set_option maxHeartbeats 1000000 in
theorem value_78 (n : Int) (w : World) (hn : instB n = true) (ht : Tab w) :
    Calls Tryd.prog 40 #[.int .u8 78, .int .i64 n] w fun e w' => e = .returned (.string ⟨(Cal.val 78 n).toArray⟩) ∧ Below w.heap.size w w' := by
  obtain ⟨h1, h2⟩ := instB_iff.1 hn
  obtain ⟨a1, a2, a3, a4, a5, a6, a7⟩ := Cal.dateOf_spec (n / 1440) (by omega) (by omega)
  have a8 := Cal.dim_bd (Cal.yOf (n / 1440)) (Cal.mOf (n / 1440))
  have a9 := Cal.dby_bd (Cal.yOf (n / 1440)) a1 (by omega)
  have a10 := Cal.cum_bd (Cal.yOf (n / 1440)) (Cal.mOf (n / 1440)) a3 a4
  have a11 := Cal.month_three (Cal.mOf (n / 1440))
  have a12 := Cal.day_three ((n / 1440 + 5) % 7 + 1)
  have a13 : 0 ≤ n / 1440 - Cal.dby (Cal.yOf (n / 1440)) := by omega
  have a14 : n / 1440 - Cal.dby (Cal.yOf (n / 1440)) ≤ 400 := by omega
  clear a7
  go_enter Tryd.func40, Tryd.ntmps40
  go_wp2_with fail
  refine (dateOf_yes n _ hn).mono ?_
  rintro e w1 ⟨rfl, hb1⟩
  have ht1 := ht.on hb1
  go_wp2_with fail
  refine (weekday_yes n _ hn).mono ?_
  rintro e w2 ⟨rfl, rfl⟩
  go_wp2_with fail
  refine (itoa_any _ _ (by omega) (by omega) (ht1.alloc _)).mono ?_
  rintro e w3 ⟨rfl, hb3⟩
  go_wp2_with fail
  go_ret
  exact ⟨by simp [Cal.val, Cal.wd], (hb1.trans ((below_new0 _ _).mono hb1.size)).trans (hb3.mono (by have := hb1.size; simp; omega))⟩

set_option maxHeartbeats 1000000 in
theorem value_108 (n : Int) (w : World) (hn : instB n = true) (ht : Tab w) :
    Calls Tryd.prog 40 #[.int .u8 108, .int .i64 n] w fun e w' => e = .returned (.string ⟨(Cal.val 108 n).toArray⟩) ∧ Below w.heap.size w w' := by
  obtain ⟨h1, h2⟩ := instB_iff.1 hn
  obtain ⟨a1, a2, a3, a4, a5, a6, a7⟩ := Cal.dateOf_spec (n / 1440) (by omega) (by omega)
  have a8 := Cal.dim_bd (Cal.yOf (n / 1440)) (Cal.mOf (n / 1440))
  have a9 := Cal.dby_bd (Cal.yOf (n / 1440)) a1 (by omega)
  have a10 := Cal.cum_bd (Cal.yOf (n / 1440)) (Cal.mOf (n / 1440)) a3 a4
  have a11 := Cal.month_three (Cal.mOf (n / 1440))
  have a12 := Cal.day_three ((n / 1440 + 5) % 7 + 1)
  have a13 : 0 ≤ n / 1440 - Cal.dby (Cal.yOf (n / 1440)) := by omega
  have a14 : n / 1440 - Cal.dby (Cal.yOf (n / 1440)) ≤ 400 := by omega
  clear a7
  go_enter Tryd.func40, Tryd.ntmps40
  go_wp2_with fail
  refine (dateOf_yes n _ hn).mono ?_
  rintro e w1 ⟨rfl, hb1⟩
  have ht1 := ht.on hb1
  go_wp2_with fail
  refine (weekday_yes n _ hn).mono ?_
  rintro e w2 ⟨rfl, rfl⟩
  go_wp2_with fail
  refine (dayName_any _ _ (by omega) (by omega)).mono ?_
  rintro e w3 ⟨rfl, rfl⟩
  go_wp2_with fail
  go_ret
  exact ⟨by simp [Cal.val, Cal.wd], hb1.trans ((below_new0 _ _).mono hb1.size)⟩

set_option maxHeartbeats 1000000 in
theorem value_68 (n : Int) (w : World) (hn : instB n = true) (ht : Tab w) :
    Calls Tryd.prog 40 #[.int .u8 68, .int .i64 n] w fun e w' => e = .returned (.string ⟨(Cal.val 68 n).toArray⟩) ∧ Below w.heap.size w w' := by
  obtain ⟨h1, h2⟩ := instB_iff.1 hn
  obtain ⟨a1, a2, a3, a4, a5, a6, a7⟩ := Cal.dateOf_spec (n / 1440) (by omega) (by omega)
  have a8 := Cal.dim_bd (Cal.yOf (n / 1440)) (Cal.mOf (n / 1440))
  have a9 := Cal.dby_bd (Cal.yOf (n / 1440)) a1 (by omega)
  have a10 := Cal.cum_bd (Cal.yOf (n / 1440)) (Cal.mOf (n / 1440)) a3 a4
  have a11 := Cal.month_three (Cal.mOf (n / 1440))
  have a12 := Cal.day_three ((n / 1440 + 5) % 7 + 1)
  have a13 : 0 ≤ n / 1440 - Cal.dby (Cal.yOf (n / 1440)) := by omega
  have a14 : n / 1440 - Cal.dby (Cal.yOf (n / 1440)) ≤ 400 := by omega
  clear a7
  go_enter Tryd.func40, Tryd.ntmps40
  go_wp2_with fail
  refine (dateOf_yes n _ hn).mono ?_
  rintro e w1 ⟨rfl, hb1⟩
  have ht1 := ht.on hb1
  go_wp2_with fail
  refine (weekday_yes n _ hn).mono ?_
  rintro e w2 ⟨rfl, rfl⟩
  go_wp2_with fail
  refine (dayName_any _ _ (by omega) (by omega)).mono ?_
  rintro e w3 ⟨rfl, rfl⟩
  go_wp2_with fail
  go_ret
  exact ⟨by simp [Cal.val, Cal.wd, text_take], hb1.trans ((below_new0 _ _).mono hb1.size)⟩

set_option maxHeartbeats 1000000 in
theorem value_72 (n : Int) (w : World) (hn : instB n = true) (ht : Tab w) :
    Calls Tryd.prog 40 #[.int .u8 72, .int .i64 n] w fun e w' => e = .returned (.string ⟨(Cal.val 72 n).toArray⟩) ∧ Below w.heap.size w w' := by
  obtain ⟨h1, h2⟩ := instB_iff.1 hn
  obtain ⟨a1, a2, a3, a4, a5, a6, a7⟩ := Cal.dateOf_spec (n / 1440) (by omega) (by omega)
  have a8 := Cal.dim_bd (Cal.yOf (n / 1440)) (Cal.mOf (n / 1440))
  have a9 := Cal.dby_bd (Cal.yOf (n / 1440)) a1 (by omega)
  have a10 := Cal.cum_bd (Cal.yOf (n / 1440)) (Cal.mOf (n / 1440)) a3 a4
  have a11 := Cal.month_three (Cal.mOf (n / 1440))
  have a12 := Cal.day_three ((n / 1440 + 5) % 7 + 1)
  have a13 : 0 ≤ n / 1440 - Cal.dby (Cal.yOf (n / 1440)) := by omega
  have a14 : n / 1440 - Cal.dby (Cal.yOf (n / 1440)) ≤ 400 := by omega
  clear a7
  go_enter Tryd.func40, Tryd.ntmps40
  go_wp2_with fail
  refine (dateOf_yes n _ hn).mono ?_
  rintro e w1 ⟨rfl, hb1⟩
  have ht1 := ht.on hb1
  go_wp2_with fail
  refine (weekday_yes n _ hn).mono ?_
  rintro e w2 ⟨rfl, rfl⟩
  go_wp2_with fail
  refine (two_any _ _ (by omega) (by omega) (ht1.alloc _)).mono ?_
  rintro e w3 ⟨rfl, hb3⟩
  go_wp2_with fail
  go_ret
  exact ⟨by simp [Cal.val], (hb1.trans ((below_new0 _ _).mono hb1.size)).trans (hb3.mono (by have := hb1.size; simp; omega))⟩

set_option maxHeartbeats 1000000 in
theorem value_71 (n : Int) (w : World) (hn : instB n = true) (ht : Tab w) :
    Calls Tryd.prog 40 #[.int .u8 71, .int .i64 n] w fun e w' => e = .returned (.string ⟨(Cal.val 71 n).toArray⟩) ∧ Below w.heap.size w w' := by
  obtain ⟨h1, h2⟩ := instB_iff.1 hn
  obtain ⟨a1, a2, a3, a4, a5, a6, a7⟩ := Cal.dateOf_spec (n / 1440) (by omega) (by omega)
  have a8 := Cal.dim_bd (Cal.yOf (n / 1440)) (Cal.mOf (n / 1440))
  have a9 := Cal.dby_bd (Cal.yOf (n / 1440)) a1 (by omega)
  have a10 := Cal.cum_bd (Cal.yOf (n / 1440)) (Cal.mOf (n / 1440)) a3 a4
  have a11 := Cal.month_three (Cal.mOf (n / 1440))
  have a12 := Cal.day_three ((n / 1440 + 5) % 7 + 1)
  have a13 : 0 ≤ n / 1440 - Cal.dby (Cal.yOf (n / 1440)) := by omega
  have a14 : n / 1440 - Cal.dby (Cal.yOf (n / 1440)) ≤ 400 := by omega
  clear a7
  go_enter Tryd.func40, Tryd.ntmps40
  go_wp2_with fail
  refine (dateOf_yes n _ hn).mono ?_
  rintro e w1 ⟨rfl, hb1⟩
  have ht1 := ht.on hb1
  go_wp2_with fail
  refine (weekday_yes n _ hn).mono ?_
  rintro e w2 ⟨rfl, rfl⟩
  go_wp2_with fail
  refine (itoa_any _ _ (by omega) (by omega) (ht1.alloc _)).mono ?_
  rintro e w3 ⟨rfl, hb3⟩
  go_wp2_with fail
  go_ret
  exact ⟨by simp [Cal.val], (hb1.trans ((below_new0 _ _).mono hb1.size)).trans (hb3.mono (by have := hb1.size; simp; omega))⟩

set_option maxHeartbeats 1000000 in
theorem value_105 (n : Int) (w : World) (hn : instB n = true) (ht : Tab w) :
    Calls Tryd.prog 40 #[.int .u8 105, .int .i64 n] w fun e w' => e = .returned (.string ⟨(Cal.val 105 n).toArray⟩) ∧ Below w.heap.size w w' := by
  obtain ⟨h1, h2⟩ := instB_iff.1 hn
  obtain ⟨a1, a2, a3, a4, a5, a6, a7⟩ := Cal.dateOf_spec (n / 1440) (by omega) (by omega)
  have a8 := Cal.dim_bd (Cal.yOf (n / 1440)) (Cal.mOf (n / 1440))
  have a9 := Cal.dby_bd (Cal.yOf (n / 1440)) a1 (by omega)
  have a10 := Cal.cum_bd (Cal.yOf (n / 1440)) (Cal.mOf (n / 1440)) a3 a4
  have a11 := Cal.month_three (Cal.mOf (n / 1440))
  have a12 := Cal.day_three ((n / 1440 + 5) % 7 + 1)
  have a13 : 0 ≤ n / 1440 - Cal.dby (Cal.yOf (n / 1440)) := by omega
  have a14 : n / 1440 - Cal.dby (Cal.yOf (n / 1440)) ≤ 400 := by omega
  clear a7
  go_enter Tryd.func40, Tryd.ntmps40
  go_wp2_with fail
  refine (dateOf_yes n _ hn).mono ?_
  rintro e w1 ⟨rfl, hb1⟩
  have ht1 := ht.on hb1
  go_wp2_with fail
  refine (weekday_yes n _ hn).mono ?_
  rintro e w2 ⟨rfl, rfl⟩
  go_wp2_with fail
  refine (two_any _ _ (by omega) (by omega) (ht1.alloc _)).mono ?_
  rintro e w3 ⟨rfl, hb3⟩
  go_wp2_with fail
  go_ret
  exact ⟨by simp [Cal.val], (hb1.trans ((below_new0 _ _).mono hb1.size)).trans (hb3.mono (by have := hb1.size; simp; omega))⟩

theorem value_any (c : UInt8) (n : Int) (w : World) (hc : Cal.isCode c = true) (hn : instB n = true) (ht : Tab w) :
    Calls Tryd.prog 40 #[.int .u8 c.toNat, .int .i64 n] w fun e w' => e = .returned (.string ⟨(Cal.val c n).toArray⟩) ∧ Below w.heap.size w w' := by
  rcases Cal.isCode_cases hc with rfl | rfl | rfl | rfl | rfl | rfl | rfl | rfl | rfl | rfl | rfl | rfl | rfl | rfl
  · exact value_89 n w hn ht
  · exact value_109 n w hn ht
  · exact value_110 n w hn ht
  · exact value_70 n w hn ht
  · exact value_77 n w hn ht
  · exact value_100 n w hn ht
  · exact value_106 n w hn ht
  · exact value_122 n w hn ht
  · exact value_78 n w hn ht
  · exact value_108 n w hn ht
  · exact value_68 n w hn ht
  · exact value_72 n w hn ht
  · exact value_71 n w hn ht
  · exact value_105 n w hn ht
end Go.Proofs.YtdemfbaaimockaaDoor
