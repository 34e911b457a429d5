/-
  What a byte of a pattern stands for, by the reference. Condition: the instant is one.
-/
import Derived.Test.YtdemfbaaimockaaDoorCalValue
import Derived.Test.YtdemfbaaimockaaDoorCalDateRef
import Derived.Test.YtdemfbaaimockaaDoorCalMinRef
import Derived.Test.YtdemfbaaimockaaDoorCalAll
import Derived.Test.YtdemfbaaimockaaDoorCalBytes
set_option linter.unusedVariables false
namespace Go.Proofs.YtdemfbaaimockaaDoor
open Go.RowKit

def monthA : Array Value := #[.string ⟨#[74, 97, 110, 117, 97, 114, 121]⟩, .string ⟨#[70, 101, 98, 114, 117, 97, 114, 121]⟩, .string ⟨#[77, 97, 114, 99, 104]⟩, .string ⟨#[65, 112, 114, 105, 108]⟩, .string ⟨#[77, 97, 121]⟩, .string ⟨#[74, 117, 110, 101]⟩, .string ⟨#[74, 117, 108, 121]⟩, .string ⟨#[65, 117, 103, 117, 115, 116]⟩, .string ⟨#[83, 101, 112, 116, 101, 109, 98, 101, 114]⟩, .string ⟨#[79, 99, 116, 111, 98, 101, 114]⟩, .string ⟨#[78, 111, 118, 101, 109, 98, 101, 114]⟩, .string ⟨#[68, 101, 99, 101, 109, 98, 101, 114]⟩]
def dayA : Array Value := #[.string ⟨#[77, 111, 110, 100, 97, 121]⟩, .string ⟨#[84, 117, 101, 115, 100, 97, 121]⟩, .string ⟨#[87, 101, 100, 110, 101, 115, 100, 97, 121]⟩, .string ⟨#[84, 104, 117, 114, 115, 100, 97, 121]⟩, .string ⟨#[70, 114, 105, 100, 97, 121]⟩, .string ⟨#[83, 97, 116, 117, 114, 100, 97, 121]⟩, .string ⟨#[83, 117, 110, 100, 97, 121]⟩]
theorem monthA_at (m : Int) (h0 : 1 ≤ m) (h1 : m ≤ 12) : monthA[m.toNat - 1]? = some (.string ⟨(Cal.monthL m).toArray⟩) := by
  rcases Cal.twelve h0 h1 with rfl | rfl | rfl | rfl | rfl | rfl | rfl | rfl | rfl | rfl | rfl | rfl <;> rfl
theorem dayA_at (m : Int) (h0 : 0 ≤ m) (h1 : m ≤ 6) : dayA[m.toNat]? = some (.string ⟨(Cal.dayL (m + 1)).toArray⟩) := by
  rcases (show m = 0 ∨ m = 1 ∨ m = 2 ∨ m = 3 ∨ m = 4 ∨ m = 5 ∨ m = 6 by omega) with rfl | rfl | rfl | rfl | rfl | rfl | rfl <;> rfl

theorem two_ref (n : Int) (w : World) (h0 : 0 ≤ n) (h1 : n ≤ 1000) :
    Calls Tryd.prog 58 #[.int .i64 n] w fun e w' => e = .returned (.string ⟨(Cal.two n).toArray⟩) ∧ Below w.heap.size w w' := by
  have hl := Lib.itoa_length_le n (by omega) (by omega)
  by_cases hn : n < 10
  all_goals
    go_enter Tryd.func58, Tryd.ntmps58
    go_wp2_with fail
    refine (decimal_any n _ (by omega) (by omega)).mono ?_
    rintro e w1 ⟨rfl, hb1⟩
    go_wp2_with fail
    go_ret
  · exact ⟨by rw [Cal.two, if_pos (by omega)]; simp [ByteArray.mk_append_mk], hb1⟩
  · exact ⟨by rw [Cal.two, if_neg (by omega)]; rfl, hb1⟩

set_option maxHeartbeats 1000000 in
theorem code_89 (n : Int) (w : World) (hn : instB n = true) :
    Calls Tryd.prog 43 #[.int .u8 89, .int .i64 n] w fun e w' => e = .returned (.tuple #[.string ⟨(Cal.val 89 n).toArray⟩, .bool true]) ∧ Below w.heap.size w w' := by
  obtain ⟨h1, h2⟩ := instB_iff.1 hn
  obtain ⟨a1, a2, a3, a4, a5, a6, a7⟩ := Cal.dateOf_spec (n / 1440) (by omega) (by omega)
  have a8 := Cal.dim_bd (Cal.yOf (n / 1440)) (Cal.mOf (n / 1440))
  have a9 := Cal.dby_bd (Cal.yOf (n / 1440)) a1 (by omega)
  have a10 := Cal.cum_bd (Cal.yOf (n / 1440)) (Cal.mOf (n / 1440)) a3 a4
  have a11 := Cal.month_three (Cal.mOf (n / 1440))
  have a12 := Cal.day_three ((n / 1440 + 5) % 7 + 1)
  have a13 := Lib.hid (show Cal.cum (Cal.yOf (n / 1440)) (Cal.mOf (n / 1440)) + Cal.dOf (n / 1440) - 1 = n / 1440 - Cal.dby (Cal.yOf (n / 1440)) by omega)
  clear a7
  go_enter Tryd.func43, Tryd.ntmps43
  go_wp2_with fail
  refine (dateOf_ref_yes n _ hn).mono ?_
  rintro e w1 ⟨rfl, hb1⟩
  have Km : Known w1 w.heap.size 9 monthA := ((Known.made _ _ _).alloc _).on hb1
  have Kd : Known w1 (w.heap.size + 1) 9 dayA := by
    have := (Known.made (w.alloc (.cells monthA 9)) 9 dayA).on hb1
    simpa using this
  have fm := (Km.alloc (.cells #[.int .i64 (Cal.yOf (n / 1440)), .int .i64 (Cal.mOf (n / 1440)), .int .i64 (Cal.dOf (n / 1440))] 23)).cell ((Cal.mOf (n / 1440)).toNat - 1)
  rw [monthA_at _ a3 a4] at fm
  have fd := (Kd.alloc (.cells #[.int .i64 (Cal.yOf (n / 1440)), .int .i64 (Cal.mOf (n / 1440)), .int .i64 (Cal.dOf (n / 1440))] 23)).cell ((n / 1440 + 5) % 7).toNat
  rw [dayA_at _ (by omega) (by omega)] at fd
  have hb := ((below_new0 w _).then_ (below_new0 _ _)).then_ (hb1.then_ (below_new0 w1 (.cells #[.int .i64 (Cal.yOf (n / 1440)), .int .i64 (Cal.mOf (n / 1440)), .int .i64 (Cal.dOf (n / 1440))] 23)))
  clear Km Kd hb1
  go_wp2_with fail
  refine (weekday_ref_yes n _ hn).mono ?_
  rintro e w2 ⟨rfl, rfl⟩
  go_wp2_with fail
  refine (decimal_any _ _ (by omega) (by omega)).mono ?_
  rintro e w3 ⟨rfl, hb3⟩
  go_wp2_with fail
  go_ret2
  exact ⟨by simp [Cal.val], hb.then_ hb3⟩

set_option maxHeartbeats 1000000 in
theorem code_109 (n : Int) (w : World) (hn : instB n = true) :
    Calls Tryd.prog 43 #[.int .u8 109, .int .i64 n] w fun e w' => e = .returned (.tuple #[.string ⟨(Cal.val 109 n).toArray⟩, .bool true]) ∧ Below w.heap.size w w' := by
  obtain ⟨h1, h2⟩ := instB_iff.1 hn
  obtain ⟨a1, a2, a3, a4, a5, a6, a7⟩ := Cal.dateOf_spec (n / 1440) (by omega) (by omega)
  have a8 := Cal.dim_bd (Cal.yOf (n / 1440)) (Cal.mOf (n / 1440))
  have a9 := Cal.dby_bd (Cal.yOf (n / 1440)) a1 (by omega)
  have a10 := Cal.cum_bd (Cal.yOf (n / 1440)) (Cal.mOf (n / 1440)) a3 a4
  have a11 := Cal.month_three (Cal.mOf (n / 1440))
  have a12 := Cal.day_three ((n / 1440 + 5) % 7 + 1)
  have a13 := Lib.hid (show Cal.cum (Cal.yOf (n / 1440)) (Cal.mOf (n / 1440)) + Cal.dOf (n / 1440) - 1 = n / 1440 - Cal.dby (Cal.yOf (n / 1440)) by omega)
  clear a7
  go_enter Tryd.func43, Tryd.ntmps43
  go_wp2_with fail
  refine (dateOf_ref_yes n _ hn).mono ?_
  rintro e w1 ⟨rfl, hb1⟩
  have Km : Known w1 w.heap.size 9 monthA := ((Known.made _ _ _).alloc _).on hb1
  have Kd : Known w1 (w.heap.size + 1) 9 dayA := by
    have := (Known.made (w.alloc (.cells monthA 9)) 9 dayA).on hb1
    simpa using this
  have fm := (Km.alloc (.cells #[.int .i64 (Cal.yOf (n / 1440)), .int .i64 (Cal.mOf (n / 1440)), .int .i64 (Cal.dOf (n / 1440))] 23)).cell ((Cal.mOf (n / 1440)).toNat - 1)
  rw [monthA_at _ a3 a4] at fm
  have fd := (Kd.alloc (.cells #[.int .i64 (Cal.yOf (n / 1440)), .int .i64 (Cal.mOf (n / 1440)), .int .i64 (Cal.dOf (n / 1440))] 23)).cell ((n / 1440 + 5) % 7).toNat
  rw [dayA_at _ (by omega) (by omega)] at fd
  have hb := ((below_new0 w _).then_ (below_new0 _ _)).then_ (hb1.then_ (below_new0 w1 (.cells #[.int .i64 (Cal.yOf (n / 1440)), .int .i64 (Cal.mOf (n / 1440)), .int .i64 (Cal.dOf (n / 1440))] 23)))
  clear Km Kd hb1
  go_wp2_with fail
  refine (weekday_ref_yes n _ hn).mono ?_
  rintro e w2 ⟨rfl, rfl⟩
  go_wp2_with fail
  refine (two_ref _ _ (by omega) (by omega)).mono ?_
  rintro e w3 ⟨rfl, hb3⟩
  go_wp2_with fail
  go_ret2
  exact ⟨by simp [Cal.val], hb.then_ hb3⟩

set_option maxHeartbeats 1000000 in
theorem code_110 (n : Int) (w : World) (hn : instB n = true) :
    Calls Tryd.prog 43 #[.int .u8 110, .int .i64 n] w fun e w' => e = .returned (.tuple #[.string ⟨(Cal.val 110 n).toArray⟩, .bool true]) ∧ Below w.heap.size w w' := by
  obtain ⟨h1, h2⟩ := instB_iff.1 hn
  obtain ⟨a1, a2, a3, a4, a5, a6, a7⟩ := Cal.dateOf_spec (n / 1440) (by omega) (by omega)
  have a8 := Cal.dim_bd (Cal.yOf (n / 1440)) (Cal.mOf (n / 1440))
  have a9 := Cal.dby_bd (Cal.yOf (n / 1440)) a1 (by omega)
  have a10 := Cal.cum_bd (Cal.yOf (n / 1440)) (Cal.mOf (n / 1440)) a3 a4
  have a11 := Cal.month_three (Cal.mOf (n / 1440))
  have a12 := Cal.day_three ((n / 1440 + 5) % 7 + 1)
  have a13 := Lib.hid (show Cal.cum (Cal.yOf (n / 1440)) (Cal.mOf (n / 1440)) + Cal.dOf (n / 1440) - 1 = n / 1440 - Cal.dby (Cal.yOf (n / 1440)) by omega)
  clear a7
  go_enter Tryd.func43, Tryd.ntmps43
  go_wp2_with fail
  refine (dateOf_ref_yes n _ hn).mono ?_
  rintro e w1 ⟨rfl, hb1⟩
  have Km : Known w1 w.heap.size 9 monthA := ((Known.made _ _ _).alloc _).on hb1
  have Kd : Known w1 (w.heap.size + 1) 9 dayA := by
    have := (Known.made (w.alloc (.cells monthA 9)) 9 dayA).on hb1
    simpa using this
  have fm := (Km.alloc (.cells #[.int .i64 (Cal.yOf (n / 1440)), .int .i64 (Cal.mOf (n / 1440)), .int .i64 (Cal.dOf (n / 1440))] 23)).cell ((Cal.mOf (n / 1440)).toNat - 1)
  rw [monthA_at _ a3 a4] at fm
  have fd := (Kd.alloc (.cells #[.int .i64 (Cal.yOf (n / 1440)), .int .i64 (Cal.mOf (n / 1440)), .int .i64 (Cal.dOf (n / 1440))] 23)).cell ((n / 1440 + 5) % 7).toNat
  rw [dayA_at _ (by omega) (by omega)] at fd
  have hb := ((below_new0 w _).then_ (below_new0 _ _)).then_ (hb1.then_ (below_new0 w1 (.cells #[.int .i64 (Cal.yOf (n / 1440)), .int .i64 (Cal.mOf (n / 1440)), .int .i64 (Cal.dOf (n / 1440))] 23)))
  clear Km Kd hb1
  go_wp2_with fail
  refine (weekday_ref_yes n _ hn).mono ?_
  rintro e w2 ⟨rfl, rfl⟩
  go_wp2_with fail
  refine (decimal_any _ _ (by omega) (by omega)).mono ?_
  rintro e w3 ⟨rfl, hb3⟩
  go_wp2_with fail
  go_ret2
  exact ⟨by simp [Cal.val], hb.then_ hb3⟩

set_option maxHeartbeats 1000000 in
theorem code_70 (n : Int) (w : World) (hn : instB n = true) :
    Calls Tryd.prog 43 #[.int .u8 70, .int .i64 n] w fun e w' => e = .returned (.tuple #[.string ⟨(Cal.val 70 n).toArray⟩, .bool true]) ∧ Below w.heap.size w w' := by
  obtain ⟨h1, h2⟩ := instB_iff.1 hn
  obtain ⟨a1, a2, a3, a4, a5, a6, a7⟩ := Cal.dateOf_spec (n / 1440) (by omega) (by omega)
  have a8 := Cal.dim_bd (Cal.yOf (n / 1440)) (Cal.mOf (n / 1440))
  have a9 := Cal.dby_bd (Cal.yOf (n / 1440)) a1 (by omega)
  have a10 := Cal.cum_bd (Cal.yOf (n / 1440)) (Cal.mOf (n / 1440)) a3 a4
  have a11 := Cal.month_three (Cal.mOf (n / 1440))
  have a12 := Cal.day_three ((n / 1440 + 5) % 7 + 1)
  have a13 := Lib.hid (show Cal.cum (Cal.yOf (n / 1440)) (Cal.mOf (n / 1440)) + Cal.dOf (n / 1440) - 1 = n / 1440 - Cal.dby (Cal.yOf (n / 1440)) by omega)
  clear a7
  go_enter Tryd.func43, Tryd.ntmps43
  go_wp2_with fail
  refine (dateOf_ref_yes n _ hn).mono ?_
  rintro e w1 ⟨rfl, hb1⟩
  have Km : Known w1 w.heap.size 9 monthA := ((Known.made _ _ _).alloc _).on hb1
  have Kd : Known w1 (w.heap.size + 1) 9 dayA := by
    have := (Known.made (w.alloc (.cells monthA 9)) 9 dayA).on hb1
    simpa using this
  have fm := (Km.alloc (.cells #[.int .i64 (Cal.yOf (n / 1440)), .int .i64 (Cal.mOf (n / 1440)), .int .i64 (Cal.dOf (n / 1440))] 23)).cell ((Cal.mOf (n / 1440)).toNat - 1)
  rw [monthA_at _ a3 a4] at fm
  have fd := (Kd.alloc (.cells #[.int .i64 (Cal.yOf (n / 1440)), .int .i64 (Cal.mOf (n / 1440)), .int .i64 (Cal.dOf (n / 1440))] 23)).cell ((n / 1440 + 5) % 7).toNat
  rw [dayA_at _ (by omega) (by omega)] at fd
  have hb := ((below_new0 w _).then_ (below_new0 _ _)).then_ (hb1.then_ (below_new0 w1 (.cells #[.int .i64 (Cal.yOf (n / 1440)), .int .i64 (Cal.mOf (n / 1440)), .int .i64 (Cal.dOf (n / 1440))] 23)))
  clear Km Kd hb1
  go_wp2_with fail
  refine (weekday_ref_yes n _ hn).mono ?_
  rintro e w2 ⟨rfl, rfl⟩
  go_wp2_with fail
  go_ret2
  exact ⟨by simp [Cal.val], hb⟩

set_option maxHeartbeats 1000000 in
theorem code_77 (n : Int) (w : World) (hn : instB n = true) :
    Calls Tryd.prog 43 #[.int .u8 77, .int .i64 n] w fun e w' => e = .returned (.tuple #[.string ⟨(Cal.val 77 n).toArray⟩, .bool true]) ∧ Below w.heap.size w w' := by
  obtain ⟨h1, h2⟩ := instB_iff.1 hn
  obtain ⟨a1, a2, a3, a4, a5, a6, a7⟩ := Cal.dateOf_spec (n / 1440) (by omega) (by omega)
  have a8 := Cal.dim_bd (Cal.yOf (n / 1440)) (Cal.mOf (n / 1440))
  have a9 := Cal.dby_bd (Cal.yOf (n / 1440)) a1 (by omega)
  have a10 := Cal.cum_bd (Cal.yOf (n / 1440)) (Cal.mOf (n / 1440)) a3 a4
  have a11 := Cal.month_three (Cal.mOf (n / 1440))
  have a12 := Cal.day_three ((n / 1440 + 5) % 7 + 1)
  have a13 := Lib.hid (show Cal.cum (Cal.yOf (n / 1440)) (Cal.mOf (n / 1440)) + Cal.dOf (n / 1440) - 1 = n / 1440 - Cal.dby (Cal.yOf (n / 1440)) by omega)
  clear a7
  go_enter Tryd.func43, Tryd.ntmps43
  go_wp2_with fail
  refine (dateOf_ref_yes n _ hn).mono ?_
  rintro e w1 ⟨rfl, hb1⟩
  have Km : Known w1 w.heap.size 9 monthA := ((Known.made _ _ _).alloc _).on hb1
  have Kd : Known w1 (w.heap.size + 1) 9 dayA := by
    have := (Known.made (w.alloc (.cells monthA 9)) 9 dayA).on hb1
    simpa using this
  have fm := (Km.alloc (.cells #[.int .i64 (Cal.yOf (n / 1440)), .int .i64 (Cal.mOf (n / 1440)), .int .i64 (Cal.dOf (n / 1440))] 23)).cell ((Cal.mOf (n / 1440)).toNat - 1)
  rw [monthA_at _ a3 a4] at fm
  have fd := (Kd.alloc (.cells #[.int .i64 (Cal.yOf (n / 1440)), .int .i64 (Cal.mOf (n / 1440)), .int .i64 (Cal.dOf (n / 1440))] 23)).cell ((n / 1440 + 5) % 7).toNat
  rw [dayA_at _ (by omega) (by omega)] at fd
  have hb := ((below_new0 w _).then_ (below_new0 _ _)).then_ (hb1.then_ (below_new0 w1 (.cells #[.int .i64 (Cal.yOf (n / 1440)), .int .i64 (Cal.mOf (n / 1440)), .int .i64 (Cal.dOf (n / 1440))] 23)))
  clear Km Kd hb1
  go_wp2_with fail
  refine (weekday_ref_yes n _ hn).mono ?_
  rintro e w2 ⟨rfl, rfl⟩
  go_wp2_with fail
  go_ret2
  exact ⟨by simp [Cal.val, text_take], hb⟩

set_option maxHeartbeats 1000000 in
theorem code_100 (n : Int) (w : World) (hn : instB n = true) :
    Calls Tryd.prog 43 #[.int .u8 100, .int .i64 n] w fun e w' => e = .returned (.tuple #[.string ⟨(Cal.val 100 n).toArray⟩, .bool true]) ∧ Below w.heap.size w w' := by
  obtain ⟨h1, h2⟩ := instB_iff.1 hn
  obtain ⟨a1, a2, a3, a4, a5, a6, a7⟩ := Cal.dateOf_spec (n / 1440) (by omega) (by omega)
  have a8 := Cal.dim_bd (Cal.yOf (n / 1440)) (Cal.mOf (n / 1440))
  have a9 := Cal.dby_bd (Cal.yOf (n / 1440)) a1 (by omega)
  have a10 := Cal.cum_bd (Cal.yOf (n / 1440)) (Cal.mOf (n / 1440)) a3 a4
  have a11 := Cal.month_three (Cal.mOf (n / 1440))
  have a12 := Cal.day_three ((n / 1440 + 5) % 7 + 1)
  have a13 := Lib.hid (show Cal.cum (Cal.yOf (n / 1440)) (Cal.mOf (n / 1440)) + Cal.dOf (n / 1440) - 1 = n / 1440 - Cal.dby (Cal.yOf (n / 1440)) by omega)
  clear a7
  go_enter Tryd.func43, Tryd.ntmps43
  go_wp2_with fail
  refine (dateOf_ref_yes n _ hn).mono ?_
  rintro e w1 ⟨rfl, hb1⟩
  have Km : Known w1 w.heap.size 9 monthA := ((Known.made _ _ _).alloc _).on hb1
  have Kd : Known w1 (w.heap.size + 1) 9 dayA := by
    have := (Known.made (w.alloc (.cells monthA 9)) 9 dayA).on hb1
    simpa using this
  have fm := (Km.alloc (.cells #[.int .i64 (Cal.yOf (n / 1440)), .int .i64 (Cal.mOf (n / 1440)), .int .i64 (Cal.dOf (n / 1440))] 23)).cell ((Cal.mOf (n / 1440)).toNat - 1)
  rw [monthA_at _ a3 a4] at fm
  have fd := (Kd.alloc (.cells #[.int .i64 (Cal.yOf (n / 1440)), .int .i64 (Cal.mOf (n / 1440)), .int .i64 (Cal.dOf (n / 1440))] 23)).cell ((n / 1440 + 5) % 7).toNat
  rw [dayA_at _ (by omega) (by omega)] at fd
  have hb := ((below_new0 w _).then_ (below_new0 _ _)).then_ (hb1.then_ (below_new0 w1 (.cells #[.int .i64 (Cal.yOf (n / 1440)), .int .i64 (Cal.mOf (n / 1440)), .int .i64 (Cal.dOf (n / 1440))] 23)))
  clear Km Kd hb1
  go_wp2_with fail
  refine (weekday_ref_yes n _ hn).mono ?_
  rintro e w2 ⟨rfl, rfl⟩
  go_wp2_with fail
  refine (two_ref _ _ (by omega) (by omega)).mono ?_
  rintro e w3 ⟨rfl, hb3⟩
  go_wp2_with fail
  go_ret2
  exact ⟨by simp [Cal.val], hb.then_ hb3⟩

set_option maxHeartbeats 1000000 in
theorem code_106 (n : Int) (w : World) (hn : instB n = true) :
    Calls Tryd.prog 43 #[.int .u8 106, .int .i64 n] w fun e w' => e = .returned (.tuple #[.string ⟨(Cal.val 106 n).toArray⟩, .bool true]) ∧ Below w.heap.size w w' := by
  obtain ⟨h1, h2⟩ := instB_iff.1 hn
  obtain ⟨a1, a2, a3, a4, a5, a6, a7⟩ := Cal.dateOf_spec (n / 1440) (by omega) (by omega)
  have a8 := Cal.dim_bd (Cal.yOf (n / 1440)) (Cal.mOf (n / 1440))
  have a9 := Cal.dby_bd (Cal.yOf (n / 1440)) a1 (by omega)
  have a10 := Cal.cum_bd (Cal.yOf (n / 1440)) (Cal.mOf (n / 1440)) a3 a4
  have a11 := Cal.month_three (Cal.mOf (n / 1440))
  have a12 := Cal.day_three ((n / 1440 + 5) % 7 + 1)
  have a13 := Lib.hid (show Cal.cum (Cal.yOf (n / 1440)) (Cal.mOf (n / 1440)) + Cal.dOf (n / 1440) - 1 = n / 1440 - Cal.dby (Cal.yOf (n / 1440)) by omega)
  clear a7
  go_enter Tryd.func43, Tryd.ntmps43
  go_wp2_with fail
  refine (dateOf_ref_yes n _ hn).mono ?_
  rintro e w1 ⟨rfl, hb1⟩
  have Km : Known w1 w.heap.size 9 monthA := ((Known.made _ _ _).alloc _).on hb1
  have Kd : Known w1 (w.heap.size + 1) 9 dayA := by
    have := (Known.made (w.alloc (.cells monthA 9)) 9 dayA).on hb1
    simpa using this
  have fm := (Km.alloc (.cells #[.int .i64 (Cal.yOf (n / 1440)), .int .i64 (Cal.mOf (n / 1440)), .int .i64 (Cal.dOf (n / 1440))] 23)).cell ((Cal.mOf (n / 1440)).toNat - 1)
  rw [monthA_at _ a3 a4] at fm
  have fd := (Kd.alloc (.cells #[.int .i64 (Cal.yOf (n / 1440)), .int .i64 (Cal.mOf (n / 1440)), .int .i64 (Cal.dOf (n / 1440))] 23)).cell ((n / 1440 + 5) % 7).toNat
  rw [dayA_at _ (by omega) (by omega)] at fd
  have hb := ((below_new0 w _).then_ (below_new0 _ _)).then_ (hb1.then_ (below_new0 w1 (.cells #[.int .i64 (Cal.yOf (n / 1440)), .int .i64 (Cal.mOf (n / 1440)), .int .i64 (Cal.dOf (n / 1440))] 23)))
  clear Km Kd hb1
  go_wp2_with fail
  refine (weekday_ref_yes n _ hn).mono ?_
  rintro e w2 ⟨rfl, rfl⟩
  go_wp2_with fail
  refine (decimal_any _ _ (by omega) (by omega)).mono ?_
  rintro e w3 ⟨rfl, hb3⟩
  go_wp2_with fail
  go_ret2
  exact ⟨by simp [Cal.val], hb.then_ hb3⟩

set_option maxHeartbeats 1000000 in
theorem code_122 (n : Int) (w : World) (hn : instB n = true) :
    Calls Tryd.prog 43 #[.int .u8 122, .int .i64 n] w fun e w' => e = .returned (.tuple #[.string ⟨(Cal.val 122 n).toArray⟩, .bool true]) ∧ Below w.heap.size w w' := by
  obtain ⟨h1, h2⟩ := instB_iff.1 hn
  obtain ⟨a1, a2, a3, a4, a5, a6, a7⟩ := Cal.dateOf_spec (n / 1440) (by omega) (by omega)
  have a8 := Cal.dim_bd (Cal.yOf (n / 1440)) (Cal.mOf (n / 1440))
  have a9 := Cal.dby_bd (Cal.yOf (n / 1440)) a1 (by omega)
  have a10 := Cal.cum_bd (Cal.yOf (n / 1440)) (Cal.mOf (n / 1440)) a3 a4
  have a11 := Cal.month_three (Cal.mOf (n / 1440))
  have a12 := Cal.day_three ((n / 1440 + 5) % 7 + 1)
  have a13 := Lib.hid (show Cal.cum (Cal.yOf (n / 1440)) (Cal.mOf (n / 1440)) + Cal.dOf (n / 1440) - 1 = n / 1440 - Cal.dby (Cal.yOf (n / 1440)) by omega)
  clear a7
  go_enter Tryd.func43, Tryd.ntmps43
  go_wp2_with fail
  refine (dateOf_ref_yes n _ hn).mono ?_
  rintro e w1 ⟨rfl, hb1⟩
  have Km : Known w1 w.heap.size 9 monthA := ((Known.made _ _ _).alloc _).on hb1
  have Kd : Known w1 (w.heap.size + 1) 9 dayA := by
    have := (Known.made (w.alloc (.cells monthA 9)) 9 dayA).on hb1
    simpa using this
  have fm := (Km.alloc (.cells #[.int .i64 (Cal.yOf (n / 1440)), .int .i64 (Cal.mOf (n / 1440)), .int .i64 (Cal.dOf (n / 1440))] 23)).cell ((Cal.mOf (n / 1440)).toNat - 1)
  rw [monthA_at _ a3 a4] at fm
  have fd := (Kd.alloc (.cells #[.int .i64 (Cal.yOf (n / 1440)), .int .i64 (Cal.mOf (n / 1440)), .int .i64 (Cal.dOf (n / 1440))] 23)).cell ((n / 1440 + 5) % 7).toNat
  rw [dayA_at _ (by omega) (by omega)] at fd
  have hb := ((below_new0 w _).then_ (below_new0 _ _)).then_ (hb1.then_ (below_new0 w1 (.cells #[.int .i64 (Cal.yOf (n / 1440)), .int .i64 (Cal.mOf (n / 1440)), .int .i64 (Cal.dOf (n / 1440))] 23)))
  clear Km Kd hb1
  go_wp2_with fail
  refine (weekday_ref_yes n _ hn).mono ?_
  rintro e w2 ⟨rfl, rfl⟩
  go_wp2_with fail
  refine (before_ref _ _ _ _ (by omega) (by omega) (by omega) (by omega) (by omega) (by omega)).mono ?_
  rintro e w2 ⟨rfl, hb2⟩
  rw [a13.out]
  have hb := hb.then_ hb2
  go_wp2_with fail
  refine (decimal_any _ _ (by omega) (by omega)).mono ?_
  rintro e w3 ⟨rfl, hb3⟩
  go_wp2_with fail
  go_ret2
  exact ⟨by simp [Cal.val], hb.then_ hb3⟩

set_option maxHeartbeats 1000000 in
theorem code_78 (n : Int) (w : World) (hn : instB n = true) :
    Calls Tryd.prog 43 #[.int .u8 78, .int .i64 n] w fun e w' => e = .returned (.tuple #[.string ⟨(Cal.val 78 n).toArray⟩, .bool true]) ∧ Below w.heap.size w w' := by
  obtain ⟨h1, h2⟩ := instB_iff.1 hn
  obtain ⟨a1, a2, a3, a4, a5, a6, a7⟩ := Cal.dateOf_spec (n / 1440) (by omega) (by omega)
  have a8 := Cal.dim_bd (Cal.yOf (n / 1440)) (Cal.mOf (n / 1440))
  have a9 := Cal.dby_bd (Cal.yOf (n / 1440)) a1 (by omega)
  have a10 := Cal.cum_bd (Cal.yOf (n / 1440)) (Cal.mOf (n / 1440)) a3 a4
  have a11 := Cal.month_three (Cal.mOf (n / 1440))
  have a12 := Cal.day_three ((n / 1440 + 5) % 7 + 1)
  have a13 := Lib.hid (show Cal.cum (Cal.yOf (n / 1440)) (Cal.mOf (n / 1440)) + Cal.dOf (n / 1440) - 1 = n / 1440 - Cal.dby (Cal.yOf (n / 1440)) by omega)
  clear a7
  go_enter Tryd.func43, Tryd.ntmps43
  go_wp2_with fail
  refine (dateOf_ref_yes n _ hn).mono ?_
  rintro e w1 ⟨rfl, hb1⟩
  have Km : Known w1 w.heap.size 9 monthA := ((Known.made _ _ _).alloc _).on hb1
  have Kd : Known w1 (w.heap.size + 1) 9 dayA := by
    have := (Known.made (w.alloc (.cells monthA 9)) 9 dayA).on hb1
    simpa using this
  have fm := (Km.alloc (.cells #[.int .i64 (Cal.yOf (n / 1440)), .int .i64 (Cal.mOf (n / 1440)), .int .i64 (Cal.dOf (n / 1440))] 23)).cell ((Cal.mOf (n / 1440)).toNat - 1)
  rw [monthA_at _ a3 a4] at fm
  have fd := (Kd.alloc (.cells #[.int .i64 (Cal.yOf (n / 1440)), .int .i64 (Cal.mOf (n / 1440)), .int .i64 (Cal.dOf (n / 1440))] 23)).cell ((n / 1440 + 5) % 7).toNat
  rw [dayA_at _ (by omega) (by omega)] at fd
  have hb := ((below_new0 w _).then_ (below_new0 _ _)).then_ (hb1.then_ (below_new0 w1 (.cells #[.int .i64 (Cal.yOf (n / 1440)), .int .i64 (Cal.mOf (n / 1440)), .int .i64 (Cal.dOf (n / 1440))] 23)))
  clear Km Kd hb1
  go_wp2_with fail
  refine (weekday_ref_yes n _ hn).mono ?_
  rintro e w2 ⟨rfl, rfl⟩
  go_wp2_with fail
  refine (decimal_any _ _ (by omega) (by omega)).mono ?_
  rintro e w3 ⟨rfl, hb3⟩
  go_wp2_with fail
  go_ret2
  exact ⟨by simp [Cal.val, Cal.wd], hb.then_ hb3⟩

set_option maxHeartbeats 1000000 in
theorem code_108 (n : Int) (w : World) (hn : instB n = true) :
    Calls Tryd.prog 43 #[.int .u8 108, .int .i64 n] w fun e w' => e = .returned (.tuple #[.string ⟨(Cal.val 108 n).toArray⟩, .bool true]) ∧ Below w.heap.size w w' := by
  obtain ⟨h1, h2⟩ := instB_iff.1 hn
  obtain ⟨a1, a2, a3, a4, a5, a6, a7⟩ := Cal.dateOf_spec (n / 1440) (by omega) (by omega)
  have a8 := Cal.dim_bd (Cal.yOf (n / 1440)) (Cal.mOf (n / 1440))
  have a9 := Cal.dby_bd (Cal.yOf (n / 1440)) a1 (by omega)
  have a10 := Cal.cum_bd (Cal.yOf (n / 1440)) (Cal.mOf (n / 1440)) a3 a4
  have a11 := Cal.month_three (Cal.mOf (n / 1440))
  have a12 := Cal.day_three ((n / 1440 + 5) % 7 + 1)
  have a13 := Lib.hid (show Cal.cum (Cal.yOf (n / 1440)) (Cal.mOf (n / 1440)) + Cal.dOf (n / 1440) - 1 = n / 1440 - Cal.dby (Cal.yOf (n / 1440)) by omega)
  clear a7
  go_enter Tryd.func43, Tryd.ntmps43
  go_wp2_with fail
  refine (dateOf_ref_yes n _ hn).mono ?_
  rintro e w1 ⟨rfl, hb1⟩
  have Km : Known w1 w.heap.size 9 monthA := ((Known.made _ _ _).alloc _).on hb1
  have Kd : Known w1 (w.heap.size + 1) 9 dayA := by
    have := (Known.made (w.alloc (.cells monthA 9)) 9 dayA).on hb1
    simpa using this
  have fm := (Km.alloc (.cells #[.int .i64 (Cal.yOf (n / 1440)), .int .i64 (Cal.mOf (n / 1440)), .int .i64 (Cal.dOf (n / 1440))] 23)).cell ((Cal.mOf (n / 1440)).toNat - 1)
  rw [monthA_at _ a3 a4] at fm
  have fd := (Kd.alloc (.cells #[.int .i64 (Cal.yOf (n / 1440)), .int .i64 (Cal.mOf (n / 1440)), .int .i64 (Cal.dOf (n / 1440))] 23)).cell ((n / 1440 + 5) % 7).toNat
  rw [dayA_at _ (by omega) (by omega)] at fd
  have hb := ((below_new0 w _).then_ (below_new0 _ _)).then_ (hb1.then_ (below_new0 w1 (.cells #[.int .i64 (Cal.yOf (n / 1440)), .int .i64 (Cal.mOf (n / 1440)), .int .i64 (Cal.dOf (n / 1440))] 23)))
  clear Km Kd hb1
  go_wp2_with fail
  refine (weekday_ref_yes n _ hn).mono ?_
  rintro e w2 ⟨rfl, rfl⟩
  go_wp2_with fail
  go_ret2
  exact ⟨by simp [Cal.val, Cal.wd], hb⟩

set_option maxHeartbeats 1000000 in
theorem code_68 (n : Int) (w : World) (hn : instB n = true) :
    Calls Tryd.prog 43 #[.int .u8 68, .int .i64 n] w fun e w' => e = .returned (.tuple #[.string ⟨(Cal.val 68 n).toArray⟩, .bool true]) ∧ Below w.heap.size w w' := by
  obtain ⟨h1, h2⟩ := instB_iff.1 hn
  obtain ⟨a1, a2, a3, a4, a5, a6, a7⟩ := Cal.dateOf_spec (n / 1440) (by omega) (by omega)
  have a8 := Cal.dim_bd (Cal.yOf (n / 1440)) (Cal.mOf (n / 1440))
  have a9 := Cal.dby_bd (Cal.yOf (n / 1440)) a1 (by omega)
  have a10 := Cal.cum_bd (Cal.yOf (n / 1440)) (Cal.mOf (n / 1440)) a3 a4
  have a11 := Cal.month_three (Cal.mOf (n / 1440))
  have a12 := Cal.day_three ((n / 1440 + 5) % 7 + 1)
  have a13 := Lib.hid (show Cal.cum (Cal.yOf (n / 1440)) (Cal.mOf (n / 1440)) + Cal.dOf (n / 1440) - 1 = n / 1440 - Cal.dby (Cal.yOf (n / 1440)) by omega)
  clear a7
  go_enter Tryd.func43, Tryd.ntmps43
  go_wp2_with fail
  refine (dateOf_ref_yes n _ hn).mono ?_
  rintro e w1 ⟨rfl, hb1⟩
  have Km : Known w1 w.heap.size 9 monthA := ((Known.made _ _ _).alloc _).on hb1
  have Kd : Known w1 (w.heap.size + 1) 9 dayA := by
    have := (Known.made (w.alloc (.cells monthA 9)) 9 dayA).on hb1
    simpa using this
  have fm := (Km.alloc (.cells #[.int .i64 (Cal.yOf (n / 1440)), .int .i64 (Cal.mOf (n / 1440)), .int .i64 (Cal.dOf (n / 1440))] 23)).cell ((Cal.mOf (n / 1440)).toNat - 1)
  rw [monthA_at _ a3 a4] at fm
  have fd := (Kd.alloc (.cells #[.int .i64 (Cal.yOf (n / 1440)), .int .i64 (Cal.mOf (n / 1440)), .int .i64 (Cal.dOf (n / 1440))] 23)).cell ((n / 1440 + 5) % 7).toNat
  rw [dayA_at _ (by omega) (by omega)] at fd
  have hb := ((below_new0 w _).then_ (below_new0 _ _)).then_ (hb1.then_ (below_new0 w1 (.cells #[.int .i64 (Cal.yOf (n / 1440)), .int .i64 (Cal.mOf (n / 1440)), .int .i64 (Cal.dOf (n / 1440))] 23)))
  clear Km Kd hb1
  go_wp2_with fail
  refine (weekday_ref_yes n _ hn).mono ?_
  rintro e w2 ⟨rfl, rfl⟩
  go_wp2_with fail
  go_ret2
  exact ⟨by simp [Cal.val, Cal.wd, text_take], hb⟩

set_option maxHeartbeats 1000000 in
theorem code_72 (n : Int) (w : World) (hn : instB n = true) :
    Calls Tryd.prog 43 #[.int .u8 72, .int .i64 n] w fun e w' => e = .returned (.tuple #[.string ⟨(Cal.val 72 n).toArray⟩, .bool true]) ∧ Below w.heap.size w w' := by
  obtain ⟨h1, h2⟩ := instB_iff.1 hn
  obtain ⟨a1, a2, a3, a4, a5, a6, a7⟩ := Cal.dateOf_spec (n / 1440) (by omega) (by omega)
  have a8 := Cal.dim_bd (Cal.yOf (n / 1440)) (Cal.mOf (n / 1440))
  have a9 := Cal.dby_bd (Cal.yOf (n / 1440)) a1 (by omega)
  have a10 := Cal.cum_bd (Cal.yOf (n / 1440)) (Cal.mOf (n / 1440)) a3 a4
  have a11 := Cal.month_three (Cal.mOf (n / 1440))
  have a12 := Cal.day_three ((n / 1440 + 5) % 7 + 1)
  have a13 := Lib.hid (show Cal.cum (Cal.yOf (n / 1440)) (Cal.mOf (n / 1440)) + Cal.dOf (n / 1440) - 1 = n / 1440 - Cal.dby (Cal.yOf (n / 1440)) by omega)
  clear a7
  go_enter Tryd.func43, Tryd.ntmps43
  go_wp2_with fail
  refine (dateOf_ref_yes n _ hn).mono ?_
  rintro e w1 ⟨rfl, hb1⟩
  have Km : Known w1 w.heap.size 9 monthA := ((Known.made _ _ _).alloc _).on hb1
  have Kd : Known w1 (w.heap.size + 1) 9 dayA := by
    have := (Known.made (w.alloc (.cells monthA 9)) 9 dayA).on hb1
    simpa using this
  have fm := (Km.alloc (.cells #[.int .i64 (Cal.yOf (n / 1440)), .int .i64 (Cal.mOf (n / 1440)), .int .i64 (Cal.dOf (n / 1440))] 23)).cell ((Cal.mOf (n / 1440)).toNat - 1)
  rw [monthA_at _ a3 a4] at fm
  have fd := (Kd.alloc (.cells #[.int .i64 (Cal.yOf (n / 1440)), .int .i64 (Cal.mOf (n / 1440)), .int .i64 (Cal.dOf (n / 1440))] 23)).cell ((n / 1440 + 5) % 7).toNat
  rw [dayA_at _ (by omega) (by omega)] at fd
  have hb := ((below_new0 w _).then_ (below_new0 _ _)).then_ (hb1.then_ (below_new0 w1 (.cells #[.int .i64 (Cal.yOf (n / 1440)), .int .i64 (Cal.mOf (n / 1440)), .int .i64 (Cal.dOf (n / 1440))] 23)))
  clear Km Kd hb1
  go_wp2_with fail
  refine (weekday_ref_yes n _ hn).mono ?_
  rintro e w2 ⟨rfl, rfl⟩
  go_wp2_with fail
  refine (two_ref _ _ (by omega) (by omega)).mono ?_
  rintro e w3 ⟨rfl, hb3⟩
  go_wp2_with fail
  go_ret2
  exact ⟨by simp [Cal.val], hb.then_ hb3⟩

set_option maxHeartbeats 1000000 in
theorem code_71 (n : Int) (w : World) (hn : instB n = true) :
    Calls Tryd.prog 43 #[.int .u8 71, .int .i64 n] w fun e w' => e = .returned (.tuple #[.string ⟨(Cal.val 71 n).toArray⟩, .bool true]) ∧ Below w.heap.size w w' := by
  obtain ⟨h1, h2⟩ := instB_iff.1 hn
  obtain ⟨a1, a2, a3, a4, a5, a6, a7⟩ := Cal.dateOf_spec (n / 1440) (by omega) (by omega)
  have a8 := Cal.dim_bd (Cal.yOf (n / 1440)) (Cal.mOf (n / 1440))
  have a9 := Cal.dby_bd (Cal.yOf (n / 1440)) a1 (by omega)
  have a10 := Cal.cum_bd (Cal.yOf (n / 1440)) (Cal.mOf (n / 1440)) a3 a4
  have a11 := Cal.month_three (Cal.mOf (n / 1440))
  have a12 := Cal.day_three ((n / 1440 + 5) % 7 + 1)
  have a13 := Lib.hid (show Cal.cum (Cal.yOf (n / 1440)) (Cal.mOf (n / 1440)) + Cal.dOf (n / 1440) - 1 = n / 1440 - Cal.dby (Cal.yOf (n / 1440)) by omega)
  clear a7
  go_enter Tryd.func43, Tryd.ntmps43
  go_wp2_with fail
  refine (dateOf_ref_yes n _ hn).mono ?_
  rintro e w1 ⟨rfl, hb1⟩
  have Km : Known w1 w.heap.size 9 monthA := ((Known.made _ _ _).alloc _).on hb1
  have Kd : Known w1 (w.heap.size + 1) 9 dayA := by
    have := (Known.made (w.alloc (.cells monthA 9)) 9 dayA).on hb1
    simpa using this
  have fm := (Km.alloc (.cells #[.int .i64 (Cal.yOf (n / 1440)), .int .i64 (Cal.mOf (n / 1440)), .int .i64 (Cal.dOf (n / 1440))] 23)).cell ((Cal.mOf (n / 1440)).toNat - 1)
  rw [monthA_at _ a3 a4] at fm
  have fd := (Kd.alloc (.cells #[.int .i64 (Cal.yOf (n / 1440)), .int .i64 (Cal.mOf (n / 1440)), .int .i64 (Cal.dOf (n / 1440))] 23)).cell ((n / 1440 + 5) % 7).toNat
  rw [dayA_at _ (by omega) (by omega)] at fd
  have hb := ((below_new0 w _).then_ (below_new0 _ _)).then_ (hb1.then_ (below_new0 w1 (.cells #[.int .i64 (Cal.yOf (n / 1440)), .int .i64 (Cal.mOf (n / 1440)), .int .i64 (Cal.dOf (n / 1440))] 23)))
  clear Km Kd hb1
  go_wp2_with fail
  refine (weekday_ref_yes n _ hn).mono ?_
  rintro e w2 ⟨rfl, rfl⟩
  go_wp2_with fail
  refine (decimal_any _ _ (by omega) (by omega)).mono ?_
  rintro e w3 ⟨rfl, hb3⟩
  go_wp2_with fail
  go_ret2
  exact ⟨by simp [Cal.val], hb.then_ hb3⟩

set_option maxHeartbeats 1000000 in
theorem code_105 (n : Int) (w : World) (hn : instB n = true) :
    Calls Tryd.prog 43 #[.int .u8 105, .int .i64 n] w fun e w' => e = .returned (.tuple #[.string ⟨(Cal.val 105 n).toArray⟩, .bool true]) ∧ Below w.heap.size w w' := by
  obtain ⟨h1, h2⟩ := instB_iff.1 hn
  obtain ⟨a1, a2, a3, a4, a5, a6, a7⟩ := Cal.dateOf_spec (n / 1440) (by omega) (by omega)
  have a8 := Cal.dim_bd (Cal.yOf (n / 1440)) (Cal.mOf (n / 1440))
  have a9 := Cal.dby_bd (Cal.yOf (n / 1440)) a1 (by omega)
  have a10 := Cal.cum_bd (Cal.yOf (n / 1440)) (Cal.mOf (n / 1440)) a3 a4
  have a11 := Cal.month_three (Cal.mOf (n / 1440))
  have a12 := Cal.day_three ((n / 1440 + 5) % 7 + 1)
  have a13 := Lib.hid (show Cal.cum (Cal.yOf (n / 1440)) (Cal.mOf (n / 1440)) + Cal.dOf (n / 1440) - 1 = n / 1440 - Cal.dby (Cal.yOf (n / 1440)) by omega)
  clear a7
  go_enter Tryd.func43, Tryd.ntmps43
  go_wp2_with fail
  refine (dateOf_ref_yes n _ hn).mono ?_
  rintro e w1 ⟨rfl, hb1⟩
  have Km : Known w1 w.heap.size 9 monthA := ((Known.made _ _ _).alloc _).on hb1
  have Kd : Known w1 (w.heap.size + 1) 9 dayA := by
    have := (Known.made (w.alloc (.cells monthA 9)) 9 dayA).on hb1
    simpa using this
  have fm := (Km.alloc (.cells #[.int .i64 (Cal.yOf (n / 1440)), .int .i64 (Cal.mOf (n / 1440)), .int .i64 (Cal.dOf (n / 1440))] 23)).cell ((Cal.mOf (n / 1440)).toNat - 1)
  rw [monthA_at _ a3 a4] at fm
  have fd := (Kd.alloc (.cells #[.int .i64 (Cal.yOf (n / 1440)), .int .i64 (Cal.mOf (n / 1440)), .int .i64 (Cal.dOf (n / 1440))] 23)).cell ((n / 1440 + 5) % 7).toNat
  rw [dayA_at _ (by omega) (by omega)] at fd
  have hb := ((below_new0 w _).then_ (below_new0 _ _)).then_ (hb1.then_ (below_new0 w1 (.cells #[.int .i64 (Cal.yOf (n / 1440)), .int .i64 (Cal.mOf (n / 1440)), .int .i64 (Cal.dOf (n / 1440))] 23)))
  clear Km Kd hb1
  go_wp2_with fail
  refine (weekday_ref_yes n _ hn).mono ?_
  rintro e w2 ⟨rfl, rfl⟩
  go_wp2_with fail
  refine (two_ref _ _ (by omega) (by omega)).mono ?_
  rintro e w3 ⟨rfl, hb3⟩
  go_wp2_with fail
  go_ret2
  exact ⟨by simp [Cal.val], hb.then_ hb3⟩

set_option maxHeartbeats 1000000 in
theorem code_no (c : UInt8) (n : Int) (w : World) (hc : Cal.isCode c = false) (hn : instB n = true) :
    Calls Tryd.prog 43 #[.int .u8 c.toNat, .int .i64 n] w fun e w' => e = .returned (.tuple #[.string ⟨#[]⟩, .bool false]) ∧ Below w.heap.size w w' := by
  have hx := Cal.isCode_not hc
  have x0 : ((c.toNat : Int) == 89) = false := Cal.byte_ne (hx 89 (by decide))
  have x1 : ((c.toNat : Int) == 109) = false := Cal.byte_ne (hx 109 (by decide))
  have x2 : ((c.toNat : Int) == 110) = false := Cal.byte_ne (hx 110 (by decide))
  have x3 : ((c.toNat : Int) == 70) = false := Cal.byte_ne (hx 70 (by decide))
  have x4 : ((c.toNat : Int) == 77) = false := Cal.byte_ne (hx 77 (by decide))
  have x5 : ((c.toNat : Int) == 100) = false := Cal.byte_ne (hx 100 (by decide))
  have x6 : ((c.toNat : Int) == 106) = false := Cal.byte_ne (hx 106 (by decide))
  have x7 : ((c.toNat : Int) == 122) = false := Cal.byte_ne (hx 122 (by decide))
  have x8 : ((c.toNat : Int) == 78) = false := Cal.byte_ne (hx 78 (by decide))
  have x9 : ((c.toNat : Int) == 108) = false := Cal.byte_ne (hx 108 (by decide))
  have x10 : ((c.toNat : Int) == 68) = false := Cal.byte_ne (hx 68 (by decide))
  have x11 : ((c.toNat : Int) == 72) = false := Cal.byte_ne (hx 72 (by decide))
  have x12 : ((c.toNat : Int) == 71) = false := Cal.byte_ne (hx 71 (by decide))
  have x13 : ((c.toNat : Int) == 105) = false := Cal.byte_ne (hx 105 (by decide))
  clear hx hc
  obtain ⟨h1, h2⟩ := instB_iff.1 hn
  obtain ⟨a1, a2, a3, a4, a5, a6, a7⟩ := Cal.dateOf_spec (n / 1440) (by omega) (by omega)
  have a8 := Cal.dim_bd (Cal.yOf (n / 1440)) (Cal.mOf (n / 1440))
  have a9 := Cal.dby_bd (Cal.yOf (n / 1440)) a1 (by omega)
  have a10 := Cal.cum_bd (Cal.yOf (n / 1440)) (Cal.mOf (n / 1440)) a3 a4
  have a11 := Cal.month_three (Cal.mOf (n / 1440))
  have a12 := Cal.day_three ((n / 1440 + 5) % 7 + 1)
  have a13 := Lib.hid (show Cal.cum (Cal.yOf (n / 1440)) (Cal.mOf (n / 1440)) + Cal.dOf (n / 1440) - 1 = n / 1440 - Cal.dby (Cal.yOf (n / 1440)) by omega)
  clear a7
  go_enter Tryd.func43, Tryd.ntmps43
  go_wp2_with fail
  refine (dateOf_ref_yes n _ hn).mono ?_
  rintro e w1 ⟨rfl, hb1⟩
  have Km : Known w1 w.heap.size 9 monthA := ((Known.made _ _ _).alloc _).on hb1
  have Kd : Known w1 (w.heap.size + 1) 9 dayA := by
    have := (Known.made (w.alloc (.cells monthA 9)) 9 dayA).on hb1
    simpa using this
  have fm := (Km.alloc (.cells #[.int .i64 (Cal.yOf (n / 1440)), .int .i64 (Cal.mOf (n / 1440)), .int .i64 (Cal.dOf (n / 1440))] 23)).cell ((Cal.mOf (n / 1440)).toNat - 1)
  rw [monthA_at _ a3 a4] at fm
  have fd := (Kd.alloc (.cells #[.int .i64 (Cal.yOf (n / 1440)), .int .i64 (Cal.mOf (n / 1440)), .int .i64 (Cal.dOf (n / 1440))] 23)).cell ((n / 1440 + 5) % 7).toNat
  rw [dayA_at _ (by omega) (by omega)] at fd
  have hb := ((below_new0 w _).then_ (below_new0 _ _)).then_ (hb1.then_ (below_new0 w1 (.cells #[.int .i64 (Cal.yOf (n / 1440)), .int .i64 (Cal.mOf (n / 1440)), .int .i64 (Cal.dOf (n / 1440))] 23)))
  clear Km Kd hb1
  go_wp2_with fail
  refine (weekday_ref_yes n _ hn).mono ?_
  rintro e w2 ⟨rfl, rfl⟩
  go_wp2_with fail
  go_ret2
  exact ⟨rfl, hb⟩

theorem code_yes (c : UInt8) (n : Int) (w : World) (hc : Cal.isCode c = true) (hn : instB n = true) :
    Calls Tryd.prog 43 #[.int .u8 c.toNat, .int .i64 n] w fun e w' => e = .returned (.tuple #[.string ⟨(Cal.val c n).toArray⟩, .bool true]) ∧ Below w.heap.size w w' := by
  rcases Cal.isCode_cases hc with rfl | rfl | rfl | rfl | rfl | rfl | rfl | rfl | rfl | rfl | rfl | rfl | rfl | rfl
  · exact code_89 n w hn
  · exact code_109 n w hn
  · exact code_110 n w hn
  · exact code_70 n w hn
  · exact code_77 n w hn
  · exact code_100 n w hn
  · exact code_106 n w hn
  · exact code_122 n w hn
  · exact code_78 n w hn
  · exact code_108 n w hn
  · exact code_68 n w hn
  · exact code_72 n w hn
  · exact code_71 n w hn
  · exact code_105 n w hn
end Go.Proofs.YtdemfbaaimockaaDoor
