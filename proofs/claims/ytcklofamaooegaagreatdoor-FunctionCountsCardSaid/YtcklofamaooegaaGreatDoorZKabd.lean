/-
  The claim's own texts, packed. Conditions: those typed in each theorem.
-/
import Derived.Test.YtcklofamaooegaaGreatDoorZKaar
import Derived.Test.YtcklofamaooegaaGreatDoorZKaac
import Derived.Test.YtcklofamaooegaaGreatDoorZKaag
import Derived.Laws.IdiomArrays
set_option maxHeartbeats 4000000
set_option maxRecDepth 10000
set_option linter.unusedVariables false
namespace Go.Proofs.YtcklofamaooegaaGreatDoor
open Go.RowKit
theorem two_any (n : Int) (w : World) (h0 : 0 ≤ n) (h1 : n ≤ 1000) (ht : Tab w) :
  Calls Tryz.prog 130 #[.int .i64 n] w fun e w' => e = .returned (.string ⟨(Cal.two n).toArray⟩) ∧ Below w.heap.size w w' := by
 have hl := Lib.itoa_length_le n (by omega) (by omega)
 by_cases hn : n < 10
 all_goals
  go_enter Tryz.func130, Tryz.ntmps130
  go_wp2_with fail
  refine (itoa_any n _ (by omega) (by omega) ht).mono ?_
  rintro e w1 ⟨rfl, hb1⟩
  go_wp2_with fail
  go_ret
 ·exact ⟨by rw [Cal.two, if_pos (by omega)]; simp [ByteArray.mk_append_mk], hb1⟩
 ·exact ⟨by rw [Cal.two, if_neg (by omega)]; rfl, hb1⟩
theorem monthName_index (n : Int) (w : World) (h0 : 1 ≤ n) (h1 : n ≤ 12) : (Instr.index 178 (.agg #[.string ⟨#[74, 97, 110, 117, 97, 114, 121]⟩, .string ⟨#[70, 101, 98, 114, 117, 97, 114, 121]⟩, .string ⟨#[77, 97, 114, 99, 104]⟩, .string ⟨#[65, 112, 114, 105, 108]⟩, .string ⟨#[77, 97, 121]⟩, .string ⟨#[74, 117, 110, 101]⟩, .string ⟨#[74, 117, 108, 121]⟩, .string ⟨#[65, 117, 103, 117, 115, 116]⟩, .string ⟨#[83, 101, 112, 116, 101, 109, 98, 101, 114]⟩, .string ⟨#[79, 99, 116, 111, 98, 101, 114]⟩, .string ⟨#[78, 111, 118, 101, 109, 98, 101, 114]⟩, .string ⟨#[68, 101, 99, 101, 109, 98, 101, 114]⟩]) (.int .i64 (n - 1))).run Tryz.prog w = .ok (.string ⟨(Cal.monthL n).toArray⟩) w := by
 rcases (show n = 1 ∨ n = 2 ∨ n = 3 ∨ n = 4 ∨ n = 5 ∨ n = 6 ∨ n = 7 ∨ n = 8 ∨ n = 9 ∨ n = 10 ∨ n = 11 ∨ n = 12 by omega) with rfl | rfl | rfl | rfl | rfl | rfl | rfl | rfl | rfl | rfl | rfl | rfl <;> kernel_rfl
theorem monthName_any (n : Int) (w : World) (h0 : 1 ≤ n) (h1 : n ≤ 12) :
  Calls Tryz.prog 131 #[.int .i64 n] w fun e w' => e = .returned (.string ⟨(Cal.monthL n).toArray⟩) ∧ w = w' := by
 have i0 := monthName_index n w h0 h1
 go_enter Tryz.func131, Tryz.ntmps131
 go_wp2
 go_ret
 exact ⟨rfl, rfl⟩
theorem dayName_index (n : Int) (w : World) (h0 : 1 ≤ n) (h1 : n ≤ 7) : (Instr.index 179 (.agg #[.string ⟨#[77, 111, 110, 100, 97, 121]⟩, .string ⟨#[84, 117, 101, 115, 100, 97, 121]⟩, .string ⟨#[87, 101, 100, 110, 101, 115, 100, 97, 121]⟩, .string ⟨#[84, 104, 117, 114, 115, 100, 97, 121]⟩, .string ⟨#[70, 114, 105, 100, 97, 121]⟩, .string ⟨#[83, 97, 116, 117, 114, 100, 97, 121]⟩, .string ⟨#[83, 117, 110, 100, 97, 121]⟩]) (.int .i64 (n - 1))).run Tryz.prog w = .ok (.string ⟨(Cal.dayL n).toArray⟩) w := by
 rcases (show n = 1 ∨ n = 2 ∨ n = 3 ∨ n = 4 ∨ n = 5 ∨ n = 6 ∨ n = 7 by omega) with rfl | rfl | rfl | rfl | rfl | rfl | rfl <;> kernel_rfl
theorem dayName_any (n : Int) (w : World) (h0 : 1 ≤ n) (h1 : n ≤ 7) :
  Calls Tryz.prog 132 #[.int .i64 n] w fun e w' => e = .returned (.string ⟨(Cal.dayL n).toArray⟩) ∧ w = w' := by
 have i0 := dayName_index n w h0 h1
 go_enter Tryz.func132, Tryz.ntmps132
 go_wp2
 go_ret
 exact ⟨rfl, rfl⟩
theorem text_take (l : List UInt8) (k : Nat) : (ByteArray.mk l.toArray).extract 0 k = ⟨(l.take k).toArray⟩ := by
 apply ByteArray.ext
 simp
theorem value_89 (n : Int) (w : World) (hn : instB n = true) (ht : Tab w) :
  Calls Tryz.prog 72 #[.int .u8 89, .int .i64 n] w fun e w' => e = .returned (.string ⟨(Cal.val 89 n).toArray⟩) ∧ Below w.heap.size w w' := by
 obtain ⟨h1, h2⟩ := instB_iff.1 hn
 obtain ⟨a1, a2, a3, a4, a5, a6, a7⟩ := Cal.dateOf_spec (n / 1440) (by omega) (by omega)
 have a8 := Cal.dim_bd (Cal.yOf (n / 1440)) (Cal.mOf (n / 1440))
 have a9 := Cal.dby_bd (Cal.yOf (n / 1440)) a1 (by omega)
 have a10 := Cal.cum_bd (Cal.yOf (n / 1440)) (Cal.mOf (n / 1440)) a3 a4
 have a11 := Cal.month_three (Cal.mOf (n / 1440))
 have a12 := Cal.day_three ((n / 1440 + 5) % 7 + 1)
 have a13 : 0 ≤ n / 1440 - Cal.dby (Cal.yOf (n / 1440)) := by omega
 have a14 : n / 1440 - Cal.dby (Cal.yOf (n / 1440)) ≤ 400 := by omega
 clear a7
 go_enter Tryz.func72, Tryz.ntmps72
 go_wp2_with fail
 refine (dateOf_yes n _ hn).mono ?_
 rintro e w1 ⟨rfl, hb1⟩
 have ht1 := ht.on hb1
 go_wp2_with fail
 refine (weekday_yes n _ hn).mono ?_
 rintro e w2 ⟨rfl, rfl⟩
 go_wp2_with fail
 refine (itoa_any _ _ (by omega) (by omega) (ht1.alloc _)).mono ?_
 rintro e w3 ⟨rfl, hb3⟩
 go_wp2_with fail
 go_ret
 exact ⟨by simp [Cal.val], (hb1.trans ((below_new0 _ _).mono hb1.size)).trans (hb3.mono (by have := hb1.size; simp; omega))⟩
theorem value_109 (n : Int) (w : World) (hn : instB n = true) (ht : Tab w) :
  Calls Tryz.prog 72 #[.int .u8 109, .int .i64 n] w fun e w' => e = .returned (.string ⟨(Cal.val 109 n).toArray⟩) ∧ Below w.heap.size w w' := by
 obtain ⟨h1, h2⟩ := instB_iff.1 hn
 obtain ⟨a1, a2, a3, a4, a5, a6, a7⟩ := Cal.dateOf_spec (n / 1440) (by omega) (by omega)
 have a8 := Cal.dim_bd (Cal.yOf (n / 1440)) (Cal.mOf (n / 1440))
 have a9 := Cal.dby_bd (Cal.yOf (n / 1440)) a1 (by omega)
 have a10 := Cal.cum_bd (Cal.yOf (n / 1440)) (Cal.mOf (n / 1440)) a3 a4
 have a11 := Cal.month_three (Cal.mOf (n / 1440))
 have a12 := Cal.day_three ((n / 1440 + 5) % 7 + 1)
 have a13 : 0 ≤ n / 1440 - Cal.dby (Cal.yOf (n / 1440)) := by omega
 have a14 : n / 1440 - Cal.dby (Cal.yOf (n / 1440)) ≤ 400 := by omega
 clear a7
 go_enter Tryz.func72, Tryz.ntmps72
 go_wp2_with fail
 refine (dateOf_yes n _ hn).mono ?_
 rintro e w1 ⟨rfl, hb1⟩
 have ht1 := ht.on hb1
 go_wp2_with fail
 refine (weekday_yes n _ hn).mono ?_
 rintro e w2 ⟨rfl, rfl⟩
 go_wp2_with fail
 refine (two_any _ _ (by omega) (by omega) (ht1.alloc _)).mono ?_
 rintro e w3 ⟨rfl, hb3⟩
 go_wp2_with fail
 go_ret
 exact ⟨by simp [Cal.val], (hb1.trans ((below_new0 _ _).mono hb1.size)).trans (hb3.mono (by have := hb1.size; simp; omega))⟩
theorem value_110 (n : Int) (w : World) (hn : instB n = true) (ht : Tab w) :
  Calls Tryz.prog 72 #[.int .u8 110, .int .i64 n] w fun e w' => e = .returned (.string ⟨(Cal.val 110 n).toArray⟩) ∧ Below w.heap.size w w' := by
 obtain ⟨h1, h2⟩ := instB_iff.1 hn
 obtain ⟨a1, a2, a3, a4, a5, a6, a7⟩ := Cal.dateOf_spec (n / 1440) (by omega) (by omega)
 have a8 := Cal.dim_bd (Cal.yOf (n / 1440)) (Cal.mOf (n / 1440))
 have a9 := Cal.dby_bd (Cal.yOf (n / 1440)) a1 (by omega)
 have a10 := Cal.cum_bd (Cal.yOf (n / 1440)) (Cal.mOf (n / 1440)) a3 a4
 have a11 := Cal.month_three (Cal.mOf (n / 1440))
 have a12 := Cal.day_three ((n / 1440 + 5) % 7 + 1)
 have a13 : 0 ≤ n / 1440 - Cal.dby (Cal.yOf (n / 1440)) := by omega
 have a14 : n / 1440 - Cal.dby (Cal.yOf (n / 1440)) ≤ 400 := by omega
 clear a7
 go_enter Tryz.func72, Tryz.ntmps72
 go_wp2_with fail
 refine (dateOf_yes n _ hn).mono ?_
 rintro e w1 ⟨rfl, hb1⟩
 have ht1 := ht.on hb1
 go_wp2_with fail
 refine (weekday_yes n _ hn).mono ?_
 rintro e w2 ⟨rfl, rfl⟩
 go_wp2_with fail
 refine (itoa_any _ _ (by omega) (by omega) (ht1.alloc _)).mono ?_
 rintro e w3 ⟨rfl, hb3⟩
 go_wp2_with fail
 go_ret
 exact ⟨by simp [Cal.val], (hb1.trans ((below_new0 _ _).mono hb1.size)).trans (hb3.mono (by have := hb1.size; simp; omega))⟩
theorem value_70 (n : Int) (w : World) (hn : instB n = true) (ht : Tab w) :
  Calls Tryz.prog 72 #[.int .u8 70, .int .i64 n] w fun e w' => e = .returned (.string ⟨(Cal.val 70 n).toArray⟩) ∧ Below w.heap.size w w' := by
 obtain ⟨h1, h2⟩ := instB_iff.1 hn
 obtain ⟨a1, a2, a3, a4, a5, a6, a7⟩ := Cal.dateOf_spec (n / 1440) (by omega) (by omega)
 have a8 := Cal.dim_bd (Cal.yOf (n / 1440)) (Cal.mOf (n / 1440))
 have a9 := Cal.dby_bd (Cal.yOf (n / 1440)) a1 (by omega)
 have a10 := Cal.cum_bd (Cal.yOf (n / 1440)) (Cal.mOf (n / 1440)) a3 a4
 have a11 := Cal.month_three (Cal.mOf (n / 1440))
 have a12 := Cal.day_three ((n / 1440 + 5) % 7 + 1)
 have a13 : 0 ≤ n / 1440 - Cal.dby (Cal.yOf (n / 1440)) := by omega
 have a14 : n / 1440 - Cal.dby (Cal.yOf (n / 1440)) ≤ 400 := by omega
 clear a7
 go_enter Tryz.func72, Tryz.ntmps72
 go_wp2_with fail
 refine (dateOf_yes n _ hn).mono ?_
 rintro e w1 ⟨rfl, hb1⟩
 have ht1 := ht.on hb1
 go_wp2_with fail
 refine (weekday_yes n _ hn).mono ?_
 rintro e w2 ⟨rfl, rfl⟩
 go_wp2_with fail
 refine (monthName_any _ _ (by omega) (by omega)).mono ?_
 rintro e w3 ⟨rfl, rfl⟩
 go_wp2_with fail
 go_ret
 exact ⟨by simp [Cal.val], hb1.trans ((below_new0 _ _).mono hb1.size)⟩
theorem value_77 (n : Int) (w : World) (hn : instB n = true) (ht : Tab w) :
  Calls Tryz.prog 72 #[.int .u8 77, .int .i64 n] w fun e w' => e = .returned (.string ⟨(Cal.val 77 n).toArray⟩) ∧ Below w.heap.size w w' := by
 obtain ⟨h1, h2⟩ := instB_iff.1 hn
 obtain ⟨a1, a2, a3, a4, a5, a6, a7⟩ := Cal.dateOf_spec (n / 1440) (by omega) (by omega)
 have a8 := Cal.dim_bd (Cal.yOf (n / 1440)) (Cal.mOf (n / 1440))
 have a9 := Cal.dby_bd (Cal.yOf (n / 1440)) a1 (by omega)
 have a10 := Cal.cum_bd (Cal.yOf (n / 1440)) (Cal.mOf (n / 1440)) a3 a4
 have a11 := Cal.month_three (Cal.mOf (n / 1440))
 have a12 := Cal.day_three ((n / 1440 + 5) % 7 + 1)
 have a13 : 0 ≤ n / 1440 - Cal.dby (Cal.yOf (n / 1440)) := by omega
 have a14 : n / 1440 - Cal.dby (Cal.yOf (n / 1440)) ≤ 400 := by omega
 clear a7
 go_enter Tryz.func72, Tryz.ntmps72
 go_wp2_with fail
 refine (dateOf_yes n _ hn).mono ?_
 rintro e w1 ⟨rfl, hb1⟩
 have ht1 := ht.on hb1
 go_wp2_with fail
 refine (weekday_yes n _ hn).mono ?_
 rintro e w2 ⟨rfl, rfl⟩
 go_wp2_with fail
 refine (monthName_any _ _ (by omega) (by omega)).mono ?_
 rintro e w3 ⟨rfl, rfl⟩
 go_wp2_with fail
 go_ret
 exact ⟨by simp [Cal.val, text_take], hb1.trans ((below_new0 _ _).mono hb1.size)⟩
theorem value_100 (n : Int) (w : World) (hn : instB n = true) (ht : Tab w) :
  Calls Tryz.prog 72 #[.int .u8 100, .int .i64 n] w fun e w' => e = .returned (.string ⟨(Cal.val 100 n).toArray⟩) ∧ Below w.heap.size w w' := by
 obtain ⟨h1, h2⟩ := instB_iff.1 hn
 obtain ⟨a1, a2, a3, a4, a5, a6, a7⟩ := Cal.dateOf_spec (n / 1440) (by omega) (by omega)
 have a8 := Cal.dim_bd (Cal.yOf (n / 1440)) (Cal.mOf (n / 1440))
 have a9 := Cal.dby_bd (Cal.yOf (n / 1440)) a1 (by omega)
 have a10 := Cal.cum_bd (Cal.yOf (n / 1440)) (Cal.mOf (n / 1440)) a3 a4
 have a11 := Cal.month_three (Cal.mOf (n / 1440))
 have a12 := Cal.day_three ((n / 1440 + 5) % 7 + 1)
 have a13 : 0 ≤ n / 1440 - Cal.dby (Cal.yOf (n / 1440)) := by omega
 have a14 : n / 1440 - Cal.dby (Cal.yOf (n / 1440)) ≤ 400 := by omega
 clear a7
 go_enter Tryz.func72, Tryz.ntmps72
 go_wp2_with fail
 refine (dateOf_yes n _ hn).mono ?_
 rintro e w1 ⟨rfl, hb1⟩
 have ht1 := ht.on hb1
 go_wp2_with fail
 refine (weekday_yes n _ hn).mono ?_
 rintro e w2 ⟨rfl, rfl⟩
 go_wp2_with fail
 refine (two_any _ _ (by omega) (by omega) (ht1.alloc _)).mono ?_
 rintro e w3 ⟨rfl, hb3⟩
 go_wp2_with fail
 go_ret
 exact ⟨by simp [Cal.val], (hb1.trans ((below_new0 _ _).mono hb1.size)).trans (hb3.mono (by have := hb1.size; simp; omega))⟩
theorem value_106 (n : Int) (w : World) (hn : instB n = true) (ht : Tab w) :
  Calls Tryz.prog 72 #[.int .u8 106, .int .i64 n] w fun e w' => e = .returned (.string ⟨(Cal.val 106 n).toArray⟩) ∧ Below w.heap.size w w' := by
 obtain ⟨h1, h2⟩ := instB_iff.1 hn
 obtain ⟨a1, a2, a3, a4, a5, a6, a7⟩ := Cal.dateOf_spec (n / 1440) (by omega) (by omega)
 have a8 := Cal.dim_bd (Cal.yOf (n / 1440)) (Cal.mOf (n / 1440))
 have a9 := Cal.dby_bd (Cal.yOf (n / 1440)) a1 (by omega)
 have a10 := Cal.cum_bd (Cal.yOf (n / 1440)) (Cal.mOf (n / 1440)) a3 a4
 have a11 := Cal.month_three (Cal.mOf (n / 1440))
 have a12 := Cal.day_three ((n / 1440 + 5) % 7 + 1)
 have a13 : 0 ≤ n / 1440 - Cal.dby (Cal.yOf (n / 1440)) := by omega
 have a14 : n / 1440 - Cal.dby (Cal.yOf (n / 1440)) ≤ 400 := by omega
 clear a7
 go_enter Tryz.func72, Tryz.ntmps72
 go_wp2_with fail
 refine (dateOf_yes n _ hn).mono ?_
 rintro e w1 ⟨rfl, hb1⟩
 have ht1 := ht.on hb1
 go_wp2_with fail
 refine (weekday_yes n _ hn).mono ?_
 rintro e w2 ⟨rfl, rfl⟩
 go_wp2_with fail
 refine (itoa_any _ _ (by omega) (by omega) (ht1.alloc _)).mono ?_
 rintro e w3 ⟨rfl, hb3⟩
 go_wp2_with fail
 go_ret
 exact ⟨by simp [Cal.val], (hb1.trans ((below_new0 _ _).mono hb1.size)).trans (hb3.mono (by have := hb1.size; simp; omega))⟩
theorem value_122 (n : Int) (w : World) (hn : instB n = true) (ht : Tab w) :
  Calls Tryz.prog 72 #[.int .u8 122, .int .i64 n] w fun e w' => e = .returned (.string ⟨(Cal.val 122 n).toArray⟩) ∧ Below w.heap.size w w' := by
 obtain ⟨h1, h2⟩ := instB_iff.1 hn
 obtain ⟨a1, a2, a3, a4, a5, a6, a7⟩ := Cal.dateOf_spec (n / 1440) (by omega) (by omega)
 have a8 := Cal.dim_bd (Cal.yOf (n / 1440)) (Cal.mOf (n / 1440))
 have a9 := Cal.dby_bd (Cal.yOf (n / 1440)) a1 (by omega)
 have a10 := Cal.cum_bd (Cal.yOf (n / 1440)) (Cal.mOf (n / 1440)) a3 a4
 have a11 := Cal.month_three (Cal.mOf (n / 1440))
 have a12 := Cal.day_three ((n / 1440 + 5) % 7 + 1)
 have a13 : 0 ≤ n / 1440 - Cal.dby (Cal.yOf (n / 1440)) := by omega
 have a14 : n / 1440 - Cal.dby (Cal.yOf (n / 1440)) ≤ 400 := by omega
 clear a7
 go_enter Tryz.func72, Tryz.ntmps72
 go_wp2_with fail
 refine (dateOf_yes n _ hn).mono ?_
 rintro e w1 ⟨rfl, hb1⟩
 have ht1 := ht.on hb1
 go_wp2_with fail
 refine (weekday_yes n _ hn).mono ?_
 rintro e w2 ⟨rfl, rfl⟩
 go_wp2_with fail
 refine (before_any _ _ (by omega) (by omega)).mono ?_
 rintro e w2 ⟨rfl, rfl⟩
 go_wp2_with fail
 refine (itoa_any _ _ (by omega) (by omega) (ht1.alloc _)).mono ?_
 rintro e w3 ⟨rfl, hb3⟩
 go_wp2_with fail
 go_ret
 exact ⟨by simp [Cal.val], (hb1.trans ((below_new0 _ _).mono hb1.size)).trans (hb3.mono (by have := hb1.size; simp; omega))⟩
theorem value_78 (n : Int) (w : World) (hn : instB n = true) (ht : Tab w) :
  Calls Tryz.prog 72 #[.int .u8 78, .int .i64 n] w fun e w' => e = .returned (.string ⟨(Cal.val 78 n).toArray⟩) ∧ Below w.heap.size w w' := by
 obtain ⟨h1, h2⟩ := instB_iff.1 hn
 obtain ⟨a1, a2, a3, a4, a5, a6, a7⟩ := Cal.dateOf_spec (n / 1440) (by omega) (by omega)
 have a8 := Cal.dim_bd (Cal.yOf (n / 1440)) (Cal.mOf (n / 1440))
 have a9 := Cal.dby_bd (Cal.yOf (n / 1440)) a1 (by omega)
 have a10 := Cal.cum_bd (Cal.yOf (n / 1440)) (Cal.mOf (n / 1440)) a3 a4
 have a11 := Cal.month_three (Cal.mOf (n / 1440))
 have a12 := Cal.day_three ((n / 1440 + 5) % 7 + 1)
 have a13 : 0 ≤ n / 1440 - Cal.dby (Cal.yOf (n / 1440)) := by omega
 have a14 : n / 1440 - Cal.dby (Cal.yOf (n / 1440)) ≤ 400 := by omega
 clear a7
 go_enter Tryz.func72, Tryz.ntmps72
 go_wp2_with fail
 refine (dateOf_yes n _ hn).mono ?_
 rintro e w1 ⟨rfl, hb1⟩
 have ht1 := ht.on hb1
 go_wp2_with fail
 refine (weekday_yes n _ hn).mono ?_
 rintro e w2 ⟨rfl, rfl⟩
 go_wp2_with fail
 refine (itoa_any _ _ (by omega) (by omega) (ht1.alloc _)).mono ?_
 rintro e w3 ⟨rfl, hb3⟩
 go_wp2_with fail
 go_ret
 exact ⟨by simp [Cal.val, Cal.wd], (hb1.trans ((below_new0 _ _).mono hb1.size)).trans (hb3.mono (by have := hb1.size; simp; omega))⟩
theorem value_108 (n : Int) (w : World) (hn : instB n = true) (ht : Tab w) :
  Calls Tryz.prog 72 #[.int .u8 108, .int .i64 n] w fun e w' => e = .returned (.string ⟨(Cal.val 108 n).toArray⟩) ∧ Below w.heap.size w w' := by
 obtain ⟨h1, h2⟩ := instB_iff.1 hn
 obtain ⟨a1, a2, a3, a4, a5, a6, a7⟩ := Cal.dateOf_spec (n / 1440) (by omega) (by omega)
 have a8 := Cal.dim_bd (Cal.yOf (n / 1440)) (Cal.mOf (n / 1440))
 have a9 := Cal.dby_bd (Cal.yOf (n / 1440)) a1 (by omega)
 have a10 := Cal.cum_bd (Cal.yOf (n / 1440)) (Cal.mOf (n / 1440)) a3 a4
 have a11 := Cal.month_three (Cal.mOf (n / 1440))
 have a12 := Cal.day_three ((n / 1440 + 5) % 7 + 1)
 have a13 : 0 ≤ n / 1440 - Cal.dby (Cal.yOf (n / 1440)) := by omega
 have a14 : n / 1440 - Cal.dby (Cal.yOf (n / 1440)) ≤ 400 := by omega
 clear a7
 go_enter Tryz.func72, Tryz.ntmps72
 go_wp2_with fail
 refine (dateOf_yes n _ hn).mono ?_
 rintro e w1 ⟨rfl, hb1⟩
 have ht1 := ht.on hb1
 go_wp2_with fail
 refine (weekday_yes n _ hn).mono ?_
 rintro e w2 ⟨rfl, rfl⟩
 go_wp2_with fail
 refine (dayName_any _ _ (by omega) (by omega)).mono ?_
 rintro e w3 ⟨rfl, rfl⟩
 go_wp2_with fail
 go_ret
 exact ⟨by simp [Cal.val, Cal.wd], hb1.trans ((below_new0 _ _).mono hb1.size)⟩
theorem value_68 (n : Int) (w : World) (hn : instB n = true) (ht : Tab w) :
  Calls Tryz.prog 72 #[.int .u8 68, .int .i64 n] w fun e w' => e = .returned (.string ⟨(Cal.val 68 n).toArray⟩) ∧ Below w.heap.size w w' := by
 obtain ⟨h1, h2⟩ := instB_iff.1 hn
 obtain ⟨a1, a2, a3, a4, a5, a6, a7⟩ := Cal.dateOf_spec (n / 1440) (by omega) (by omega)
 have a8 := Cal.dim_bd (Cal.yOf (n / 1440)) (Cal.mOf (n / 1440))
 have a9 := Cal.dby_bd (Cal.yOf (n / 1440)) a1 (by omega)
 have a10 := Cal.cum_bd (Cal.yOf (n / 1440)) (Cal.mOf (n / 1440)) a3 a4
 have a11 := Cal.month_three (Cal.mOf (n / 1440))
 have a12 := Cal.day_three ((n / 1440 + 5) % 7 + 1)
 have a13 : 0 ≤ n / 1440 - Cal.dby (Cal.yOf (n / 1440)) := by omega
 have a14 : n / 1440 - Cal.dby (Cal.yOf (n / 1440)) ≤ 400 := by omega
 clear a7
 go_enter Tryz.func72, Tryz.ntmps72
 go_wp2_with fail
 refine (dateOf_yes n _ hn).mono ?_
 rintro e w1 ⟨rfl, hb1⟩
 have ht1 := ht.on hb1
 go_wp2_with fail
 refine (weekday_yes n _ hn).mono ?_
 rintro e w2 ⟨rfl, rfl⟩
 go_wp2_with fail
 refine (dayName_any _ _ (by omega) (by omega)).mono ?_
 rintro e w3 ⟨rfl, rfl⟩
 go_wp2_with fail
 go_ret
 exact ⟨by simp [Cal.val, Cal.wd, text_take], hb1.trans ((below_new0 _ _).mono hb1.size)⟩
theorem value_72 (n : Int) (w : World) (hn : instB n = true) (ht : Tab w) :
  Calls Tryz.prog 72 #[.int .u8 72, .int .i64 n] w fun e w' => e = .returned (.string ⟨(Cal.val 72 n).toArray⟩) ∧ Below w.heap.size w w' := by
 obtain ⟨h1, h2⟩ := instB_iff.1 hn
 obtain ⟨a1, a2, a3, a4, a5, a6, a7⟩ := Cal.dateOf_spec (n / 1440) (by omega) (by omega)
 have a8 := Cal.dim_bd (Cal.yOf (n / 1440)) (Cal.mOf (n / 1440))
 have a9 := Cal.dby_bd (Cal.yOf (n / 1440)) a1 (by omega)
 have a10 := Cal.cum_bd (Cal.yOf (n / 1440)) (Cal.mOf (n / 1440)) a3 a4
 have a11 := Cal.month_three (Cal.mOf (n / 1440))
 have a12 := Cal.day_three ((n / 1440 + 5) % 7 + 1)
 have a13 : 0 ≤ n / 1440 - Cal.dby (Cal.yOf (n / 1440)) := by omega
 have a14 : n / 1440 - Cal.dby (Cal.yOf (n / 1440)) ≤ 400 := by omega
 clear a7
 go_enter Tryz.func72, Tryz.ntmps72
 go_wp2_with fail
 refine (dateOf_yes n _ hn).mono ?_
 rintro e w1 ⟨rfl, hb1⟩
 have ht1 := ht.on hb1
 go_wp2_with fail
 refine (weekday_yes n _ hn).mono ?_
 rintro e w2 ⟨rfl, rfl⟩
 go_wp2_with fail
 refine (two_any _ _ (by omega) (by omega) (ht1.alloc _)).mono ?_
 rintro e w3 ⟨rfl, hb3⟩
 go_wp2_with fail
 go_ret
 exact ⟨by simp [Cal.val], (hb1.trans ((below_new0 _ _).mono hb1.size)).trans (hb3.mono (by have := hb1.size; simp; omega))⟩
theorem value_71 (n : Int) (w : World) (hn : instB n = true) (ht : Tab w) :
  Calls Tryz.prog 72 #[.int .u8 71, .int .i64 n] w fun e w' => e = .returned (.string ⟨(Cal.val 71 n).toArray⟩) ∧ Below w.heap.size w w' := by
 obtain ⟨h1, h2⟩ := instB_iff.1 hn
 obtain ⟨a1, a2, a3, a4, a5, a6, a7⟩ := Cal.dateOf_spec (n / 1440) (by omega) (by omega)
 have a8 := Cal.dim_bd (Cal.yOf (n / 1440)) (Cal.mOf (n / 1440))
 have a9 := Cal.dby_bd (Cal.yOf (n / 1440)) a1 (by omega)
 have a10 := Cal.cum_bd (Cal.yOf (n / 1440)) (Cal.mOf (n / 1440)) a3 a4
 have a11 := Cal.month_three (Cal.mOf (n / 1440))
 have a12 := Cal.day_three ((n / 1440 + 5) % 7 + 1)
 have a13 : 0 ≤ n / 1440 - Cal.dby (Cal.yOf (n / 1440)) := by omega
 have a14 : n / 1440 - Cal.dby (Cal.yOf (n / 1440)) ≤ 400 := by omega
 clear a7
 go_enter Tryz.func72, Tryz.ntmps72
 go_wp2_with fail
 refine (dateOf_yes n _ hn).mono ?_
 rintro e w1 ⟨rfl, hb1⟩
 have ht1 := ht.on hb1
 go_wp2_with fail
 refine (weekday_yes n _ hn).mono ?_
 rintro e w2 ⟨rfl, rfl⟩
 go_wp2_with fail
 refine (itoa_any _ _ (by omega) (by omega) (ht1.alloc _)).mono ?_
 rintro e w3 ⟨rfl, hb3⟩
 go_wp2_with fail
 go_ret
 exact ⟨by simp [Cal.val], (hb1.trans ((below_new0 _ _).mono hb1.size)).trans (hb3.mono (by have := hb1.size; simp; omega))⟩
theorem value_105 (n : Int) (w : World) (hn : instB n = true) (ht : Tab w) :
  Calls Tryz.prog 72 #[.int .u8 105, .int .i64 n] w fun e w' => e = .returned (.string ⟨(Cal.val 105 n).toArray⟩) ∧ Below w.heap.size w w' := by
 obtain ⟨h1, h2⟩ := instB_iff.1 hn
 obtain ⟨a1, a2, a3, a4, a5, a6, a7⟩ := Cal.dateOf_spec (n / 1440) (by omega) (by omega)
 have a8 := Cal.dim_bd (Cal.yOf (n / 1440)) (Cal.mOf (n / 1440))
 have a9 := Cal.dby_bd (Cal.yOf (n / 1440)) a1 (by omega)
 have a10 := Cal.cum_bd (Cal.yOf (n / 1440)) (Cal.mOf (n / 1440)) a3 a4
 have a11 := Cal.month_three (Cal.mOf (n / 1440))
 have a12 := Cal.day_three ((n / 1440 + 5) % 7 + 1)
 have a13 : 0 ≤ n / 1440 - Cal.dby (Cal.yOf (n / 1440)) := by omega
 have a14 : n / 1440 - Cal.dby (Cal.yOf (n / 1440)) ≤ 400 := by omega
 clear a7
 go_enter Tryz.func72, Tryz.ntmps72
 go_wp2_with fail
 refine (dateOf_yes n _ hn).mono ?_
 rintro e w1 ⟨rfl, hb1⟩
 have ht1 := ht.on hb1
 go_wp2_with fail
 refine (weekday_yes n _ hn).mono ?_
 rintro e w2 ⟨rfl, rfl⟩
 go_wp2_with fail
 refine (two_any _ _ (by omega) (by omega) (ht1.alloc _)).mono ?_
 rintro e w3 ⟨rfl, hb3⟩
 go_wp2_with fail
 go_ret
 exact ⟨by simp [Cal.val], (hb1.trans ((below_new0 _ _).mono hb1.size)).trans (hb3.mono (by have := hb1.size; simp; omega))⟩
theorem value_any (c : UInt8) (n : Int) (w : World) (hc : Cal.isCode c = true) (hn : instB n = true) (ht : Tab w) :
  Calls Tryz.prog 72 #[.int .u8 c.toNat, .int .i64 n] w fun e w' => e = .returned (.string ⟨(Cal.val c n).toArray⟩) ∧ Below w.heap.size w w' := by
 rcases Cal.isCode_cases hc with rfl | rfl | rfl | rfl | rfl | rfl | rfl | rfl | rfl | rfl | rfl | rfl | rfl | rfl
 ·exact value_89 n w hn ht
 ·exact value_109 n w hn ht
 ·exact value_110 n w hn ht
 ·exact value_70 n w hn ht
 ·exact value_77 n w hn ht
 ·exact value_100 n w hn ht
 ·exact value_106 n w hn ht
 ·exact value_122 n w hn ht
 ·exact value_78 n w hn ht
 ·exact value_108 n w hn ht
 ·exact value_68 n w hn ht
 ·exact value_72 n w hn ht
 ·exact value_71 n w hn ht
 ·exact value_105 n w hn ht
end Go.Proofs.YtcklofamaooegaaGreatDoor
