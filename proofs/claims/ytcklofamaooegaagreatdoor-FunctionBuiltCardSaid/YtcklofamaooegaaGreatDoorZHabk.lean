/-
  The claim's own texts, packed. Conditions: those typed in each theorem.
-/
import Derived.Test.YtcklofamaooegaaGreatDoorZHaat
import Derived.Test.YtcklofamaooegaaGreatDoorZHabd
import Derived.Test.YtcklofamaooegaaGreatDoorZHaas
import Derived.Test.YtcklofamaooegaaGreatDoorZHaae
import Derived.Test.YtcklofamaooegaaGreatDoorZHaag
import Derived.Test.YtcklofamaooegaaGreatDoorZHaac
set_option maxHeartbeats 4000000
set_option maxRecDepth 10000
set_option linter.unusedVariables false
namespace Go.Proofs.YtcklofamaooegaaGreatDoor
open Go.RowKit
def FI (w : World) (b m : Nat) (n : Int) (done : List (UInt8 × Bool)) (w' : World) : Prop :=
 Buf b (Cal.fmt n done) w' ∧ w'.cell? ⟨m, 0, none⟩ = some (.int .i64 n) ∧ Below w.heap.size w w'
theorem format_call (w : World) (b m : Nat) (n : Int) (N : Nat) (hN : N ≤ 1000) (hn : instB n = true) (hm : m < b) (hb : w.heap.size ≤ b) (ht : Tab w) :
  Hands N 70 #[.pointer (some ⟨b, 0, none⟩), .pointer (some ⟨m, 0, none⟩)] (FI w b m n) := by
 intro done c cb w1 hlen hc hI
 obtain ⟨hbuf, hcell, hbel⟩ := hI
 obtain ⟨h1, h2⟩ := instB_iff.1 hn
 have hl := Cal.fmt_len n h1 h2 done
 have hv := Cal.val_len c n h1 h2
 have htab := ht.on hbel
 have hlt := hbuf.lt
 cases cb
 ·show Calls Tryz.prog 70 #[.int .u8 c.toNat, .bool false, .pointer (some ⟨b, 0, none⟩), .pointer (some ⟨m, 0, none⟩)] w1 _
  go_enter Tryz.func70, Tryz.ntmps70
  go_wp2_with fail
  refine (buf_byte b _ c w1 hbuf (by omega)).mono ?_
  rintro e w2 ⟨rfl, hbuf2, hr⟩
  go_wp2_with fail
  go_end0
  exact ⟨rfl, by rw [Cal.fmt_snoc]; exact hbuf2, (hr.1.cell (p := ⟨m, 0, none⟩) hm).trans hcell, hbel.trans (hr.1.mono hb)⟩
 ·have hc' := hc rfl
  clear hc
  show Calls Tryz.prog 70 #[.int .u8 c.toNat, .bool true, .pointer (some ⟨b, 0, none⟩), .pointer (some ⟨m, 0, none⟩)] w1 _
  go_enter Tryz.func70, Tryz.ntmps70
  go_wp2_with fail
  refine (value_any c n w1 hc' hn htab).mono ?_
  rintro e w2 ⟨rfl, hb2⟩
  have hbuf2 := hbuf.on hb2
  go_wp2_with fail
  refine (buf_string b _ _ w2 hbuf2 (by rw [ByteArray.size]; simp; omega)).mono ?_
  rintro e w3 ⟨rfl, hbuf3, hr⟩
  go_wp2_with fail
  go_end0
  refine ⟨rfl, ?_, ?_, ?_⟩
  ·rw [Cal.fmt_snoc]; simpa [Cal.piece] using hbuf3
  ·rw [hr.1.cell (p := ⟨m, 0, none⟩) hm, hb2.cell (p := ⟨m, 0, none⟩) (by show m < _; omega)]; exact hcell
  ·exact (hbel.trans (hb2.mono (by omega))).trans (hr.1.mono hb)
theorem enters_format : ∀ args w, (callFunc 70 args).run Tryz.prog w = .ok (.enter 70 args) w := enters_of Tryz.func70 (by kernel_rfl) rfl
theorem format_no (s : ByteArray) (n : Int) (w : World) (hn : instB n = false) :
  Calls Tryz.prog 32 #[.string s, .int .i64 n] w fun e w' => e = .returned (.tuple #[.string ⟨#[]⟩, .int .i64 2]) ∧ Below w.heap.size w w' := by
 go_enter Tryz.func32, Tryz.ntmps32
 go_wp2_with (go_at_call 68; refine (instant_any _ _).mono ?_; rintro e w' ⟨rfl, rfl⟩)
 go_ret2
 exact ⟨rfl, below_new0 _ _⟩
theorem format_long (s : ByteArray) (n : Int) (w : World) (hs : s.size ≤ 1000000) (hl : 400 < s.size) (hn : instB n = true) :
  Calls Tryz.prog 32 #[.string s, .int .i64 n] w fun e w' => e = .returned (.tuple #[.string ⟨#[]⟩, .int .i64 3]) ∧ Below w.heap.size w w' := by
 go_enter Tryz.func32, Tryz.ntmps32
 go_wp2_with (go_at_call 68; refine (instant_any _ _).mono ?_; rintro e w' ⟨rfl, rfl⟩)
 go_ret2
 exact ⟨rfl, below_new0 _ _⟩
theorem format_yes (s : ByteArray) (n : Int) (w : World) (hl : s.size ≤ 400) (hn : instB n = true) (ht : Tab w) :
  Calls Tryz.prog 32 #[.string s, .int .i64 n] w fun e w' => e = .returned (.tuple #[.string ⟨(Cal.fmt n (Cal.evs s.data.toList)).toArray⟩, .int .i64 0]) ∧ Below w.heap.size w w' := by
 go_enter Tryz.func32, Tryz.ntmps32
 go_wp2_with (go_at_call 68; refine (instant_any _ _).mono ?_; rintro e w' ⟨rfl, rfl⟩)
 have hI : FI w (w.heap.size + 1) w.heap.size n [] ((w.alloc (.cells #[.int .i64 n] 3)).alloc (.cells #[.pointer none, .slice none 0 0] 95)) := by
  have hb := buf_new (w.alloc (.cells #[.int .i64 n] 3))
  simp only [World.size_alloc] at hb
  exact ⟨hb, by simp, (below_new0 _ _).trans ((below_new0 _ _).mono (by simp))⟩
 refine (codes_any s 70 _ (FI w (w.heap.size + 1) w.heap.size n) _ (by omega) enters_format (format_call w (w.heap.size + 1) w.heap.size n s.size (by omega) hn (by omega) (by omega) ht) hI).mono ?_
 rintro e w1 ⟨rfl, hbuf, _, hbel⟩
 clear hI
 go_wp2_with fail
 refine (buf_text _ _ _ hbuf).mono ?_
 rintro e w2 ⟨rfl, hbuf2, hr⟩
 go_wp2_with fail
 go_ret2
 exact ⟨rfl, hbel.trans (hr.1.mono (by omega))⟩
theorem minute_any (y m d c : Int) (w : World) :
  Calls Tryz.prog 67 #[.agg #[.int .i64 y, .int .i64 m, .int .i64 d], .int .i64 c] w fun e w' => e = .returned (.tuple #[.int .i64 (Cal.minV y m d c), .int .i64 (Cal.minE y m d c)]) ∧ Below w.heap.size w w' := by
 cases h : Cal.vd y m d c
 ·rw [Cal.minV_no h, Cal.minE_no h]; exact minute_no y m d c w h
 ·rw [Cal.minV_yes h, Cal.minE_yes h]; exact minute_yes y m d c w h
theorem minute_ref (y m d c : Int) (w : World) :
  Calls Tryz.prog 94 #[.agg #[.int .i64 y, .int .i64 m, .int .i64 d], .int .i64 c] w fun e w' => e = .returned (.tuple #[.int .i64 (Cal.minV y m d c), .int .i64 (Cal.minE y m d c)]) ∧ Below w.heap.size w w' := by
 cases h : Cal.vd y m d c
 ·rw [Cal.minV_no h, Cal.minE_no h]; exact minute_ref_no y m d c w h
 ·rw [Cal.minV_yes h, Cal.minE_yes h]; exact minute_ref_yes y m d c w h
end Go.Proofs.YtcklofamaooegaaGreatDoor
set_option linter.unusedVariables false
namespace Go.Proofs.YtcklofamaooegaaGreatDoor
open Go.RowKit
def monthA : Array Value := #[.string ⟨#[74, 97, 110, 117, 97, 114, 121]⟩, .string ⟨#[70, 101, 98, 114, 117, 97, 114, 121]⟩, .string ⟨#[77, 97, 114, 99, 104]⟩, .string ⟨#[65, 112, 114, 105, 108]⟩, .string ⟨#[77, 97, 121]⟩, .string ⟨#[74, 117, 110, 101]⟩, .string ⟨#[74, 117, 108, 121]⟩, .string ⟨#[65, 117, 103, 117, 115, 116]⟩, .string ⟨#[83, 101, 112, 116, 101, 109, 98, 101, 114]⟩, .string ⟨#[79, 99, 116, 111, 98, 101, 114]⟩, .string ⟨#[78, 111, 118, 101, 109, 98, 101, 114]⟩, .string ⟨#[68, 101, 99, 101, 109, 98, 101, 114]⟩]
def dayA : Array Value := #[.string ⟨#[77, 111, 110, 100, 97, 121]⟩, .string ⟨#[84, 117, 101, 115, 100, 97, 121]⟩, .string ⟨#[87, 101, 100, 110, 101, 115, 100, 97, 121]⟩, .string ⟨#[84, 104, 117, 114, 115, 100, 97, 121]⟩, .string ⟨#[70, 114, 105, 100, 97, 121]⟩, .string ⟨#[83, 97, 116, 117, 114, 100, 97, 121]⟩, .string ⟨#[83, 117, 110, 100, 97, 121]⟩]
theorem monthA_at (m : Int) (h0 : 1 ≤ m) (h1 : m ≤ 12) : monthA[m.toNat - 1]? = some (.string ⟨(Cal.monthL m).toArray⟩) := by
 rcases Cal.twelve h0 h1 with rfl | rfl | rfl | rfl | rfl | rfl | rfl | rfl | rfl | rfl | rfl | rfl <;> rfl
theorem dayA_at (m : Int) (h0 : 0 ≤ m) (h1 : m ≤ 6) : dayA[m.toNat]? = some (.string ⟨(Cal.dayL (m + 1)).toArray⟩) := by
 rcases (show m = 0 ∨ m = 1 ∨ m = 2 ∨ m = 3 ∨ m = 4 ∨ m = 5 ∨ m = 6 by omega) with rfl | rfl | rfl | rfl | rfl | rfl | rfl <;> rfl
theorem two_ref (n : Int) (w : World) (h0 : 0 ≤ n) (h1 : n ≤ 1000) :
  Calls Tryz.prog 153 #[.int .i64 n] w fun e w' => e = .returned (.string ⟨(Cal.two n).toArray⟩) ∧ Below w.heap.size w w' := by
 have hl := Lib.itoa_length_le n (by omega) (by omega)
 by_cases hn : n < 10
 all_goals
  go_enter Tryz.func153, Tryz.ntmps153
  go_wp2_with fail
  refine (decimal_any n _ (by omega) (by omega)).mono ?_
  rintro e w1 ⟨rfl, hb1⟩
  go_wp2_with fail
  go_ret
 ·exact ⟨by rw [Cal.two, if_pos (by omega)]; simp [ByteArray.mk_append_mk], hb1⟩
 ·exact ⟨by rw [Cal.two, if_neg (by omega)]; rfl, hb1⟩
theorem code_89 (n : Int) (w : World) (hn : instB n = true) :
  Calls Tryz.prog 96 #[.int .u8 89, .int .i64 n] w fun e w' => e = .returned (.tuple #[.string ⟨(Cal.val 89 n).toArray⟩, .bool true]) ∧ Below w.heap.size w w' := by
 obtain ⟨h1, h2⟩ := instB_iff.1 hn
 obtain ⟨a1, a2, a3, a4, a5, a6, a7⟩ := Cal.dateOf_spec (n / 1440) (by omega) (by omega)
 have a8 := Cal.dim_bd (Cal.yOf (n / 1440)) (Cal.mOf (n / 1440))
 have a9 := Cal.dby_bd (Cal.yOf (n / 1440)) a1 (by omega)
 have a10 := Cal.cum_bd (Cal.yOf (n / 1440)) (Cal.mOf (n / 1440)) a3 a4
 have a11 := Cal.month_three (Cal.mOf (n / 1440))
 have a12 := Cal.day_three ((n / 1440 + 5) % 7 + 1)
 have a13 := Lib.hid (show Cal.cum (Cal.yOf (n / 1440)) (Cal.mOf (n / 1440)) + Cal.dOf (n / 1440) - 1 = n / 1440 - Cal.dby (Cal.yOf (n / 1440)) by omega)
 clear a7
 go_enter Tryz.func96, Tryz.ntmps96
 go_wp2_with fail
 refine (dateOf_ref_yes n _ hn).mono ?_
 rintro e w1 ⟨rfl, hb1⟩
 have Km : Known w1 w.heap.size 9 monthA := ((Known.made _ _ _).alloc _).on hb1
 have Kd : Known w1 (w.heap.size + 1) 9 dayA := by
  have := (Known.made (w.alloc (.cells monthA 9)) 9 dayA).on hb1
  simpa using this
 have fm := (Km.alloc (.cells #[.int .i64 (Cal.yOf (n / 1440)), .int .i64 (Cal.mOf (n / 1440)), .int .i64 (Cal.dOf (n / 1440))] 92)).cell ((Cal.mOf (n / 1440)).toNat - 1)
 rw [monthA_at _ a3 a4] at fm
 have fd := (Kd.alloc (.cells #[.int .i64 (Cal.yOf (n / 1440)), .int .i64 (Cal.mOf (n / 1440)), .int .i64 (Cal.dOf (n / 1440))] 92)).cell ((n / 1440 + 5) % 7).toNat
 rw [dayA_at _ (by omega) (by omega)] at fd
 have hb := ((below_new0 w _).then_ (below_new0 _ _)).then_ (hb1.then_ (below_new0 w1 (.cells #[.int .i64 (Cal.yOf (n / 1440)), .int .i64 (Cal.mOf (n / 1440)), .int .i64 (Cal.dOf (n / 1440))] 92)))
 clear Km Kd hb1
 go_wp2_with fail
 refine (weekday_ref_yes n _ hn).mono ?_
 rintro e w2 ⟨rfl, rfl⟩
 go_wp2_with fail
 refine (decimal_any _ _ (by omega) (by omega)).mono ?_
 rintro e w3 ⟨rfl, hb3⟩
 go_wp2_with fail
 go_ret2
 exact ⟨by simp [Cal.val], hb.then_ hb3⟩
theorem code_109 (n : Int) (w : World) (hn : instB n = true) :
  Calls Tryz.prog 96 #[.int .u8 109, .int .i64 n] w fun e w' => e = .returned (.tuple #[.string ⟨(Cal.val 109 n).toArray⟩, .bool true]) ∧ Below w.heap.size w w' := by
 obtain ⟨h1, h2⟩ := instB_iff.1 hn
 obtain ⟨a1, a2, a3, a4, a5, a6, a7⟩ := Cal.dateOf_spec (n / 1440) (by omega) (by omega)
 have a8 := Cal.dim_bd (Cal.yOf (n / 1440)) (Cal.mOf (n / 1440))
 have a9 := Cal.dby_bd (Cal.yOf (n / 1440)) a1 (by omega)
 have a10 := Cal.cum_bd (Cal.yOf (n / 1440)) (Cal.mOf (n / 1440)) a3 a4
 have a11 := Cal.month_three (Cal.mOf (n / 1440))
 have a12 := Cal.day_three ((n / 1440 + 5) % 7 + 1)
 have a13 := Lib.hid (show Cal.cum (Cal.yOf (n / 1440)) (Cal.mOf (n / 1440)) + Cal.dOf (n / 1440) - 1 = n / 1440 - Cal.dby (Cal.yOf (n / 1440)) by omega)
 clear a7
 go_enter Tryz.func96, Tryz.ntmps96
 go_wp2_with fail
 refine (dateOf_ref_yes n _ hn).mono ?_
 rintro e w1 ⟨rfl, hb1⟩
 have Km : Known w1 w.heap.size 9 monthA := ((Known.made _ _ _).alloc _).on hb1
 have Kd : Known w1 (w.heap.size + 1) 9 dayA := by
  have := (Known.made (w.alloc (.cells monthA 9)) 9 dayA).on hb1
  simpa using this
 have fm := (Km.alloc (.cells #[.int .i64 (Cal.yOf (n / 1440)), .int .i64 (Cal.mOf (n / 1440)), .int .i64 (Cal.dOf (n / 1440))] 92)).cell ((Cal.mOf (n / 1440)).toNat - 1)
 rw [monthA_at _ a3 a4] at fm
 have fd := (Kd.alloc (.cells #[.int .i64 (Cal.yOf (n / 1440)), .int .i64 (Cal.mOf (n / 1440)), .int .i64 (Cal.dOf (n / 1440))] 92)).cell ((n / 1440 + 5) % 7).toNat
 rw [dayA_at _ (by omega) (by omega)] at fd
 have hb := ((below_new0 w _).then_ (below_new0 _ _)).then_ (hb1.then_ (below_new0 w1 (.cells #[.int .i64 (Cal.yOf (n / 1440)), .int .i64 (Cal.mOf (n / 1440)), .int .i64 (Cal.dOf (n / 1440))] 92)))
 clear Km Kd hb1
 go_wp2_with fail
 refine (weekday_ref_yes n _ hn).mono ?_
 rintro e w2 ⟨rfl, rfl⟩
 go_wp2_with fail
 refine (two_ref _ _ (by omega) (by omega)).mono ?_
 rintro e w3 ⟨rfl, hb3⟩
 go_wp2_with fail
 go_ret2
 exact ⟨by simp [Cal.val], hb.then_ hb3⟩
theorem code_110 (n : Int) (w : World) (hn : instB n = true) :
  Calls Tryz.prog 96 #[.int .u8 110, .int .i64 n] w fun e w' => e = .returned (.tuple #[.string ⟨(Cal.val 110 n).toArray⟩, .bool true]) ∧ Below w.heap.size w w' := by
 obtain ⟨h1, h2⟩ := instB_iff.1 hn
 obtain ⟨a1, a2, a3, a4, a5, a6, a7⟩ := Cal.dateOf_spec (n / 1440) (by omega) (by omega)
 have a8 := Cal.dim_bd (Cal.yOf (n / 1440)) (Cal.mOf (n / 1440))
 have a9 := Cal.dby_bd (Cal.yOf (n / 1440)) a1 (by omega)
 have a10 := Cal.cum_bd (Cal.yOf (n / 1440)) (Cal.mOf (n / 1440)) a3 a4
 have a11 := Cal.month_three (Cal.mOf (n / 1440))
 have a12 := Cal.day_three ((n / 1440 + 5) % 7 + 1)
 have a13 := Lib.hid (show Cal.cum (Cal.yOf (n / 1440)) (Cal.mOf (n / 1440)) + Cal.dOf (n / 1440) - 1 = n / 1440 - Cal.dby (Cal.yOf (n / 1440)) by omega)
 clear a7
 go_enter Tryz.func96, Tryz.ntmps96
 go_wp2_with fail
 refine (dateOf_ref_yes n _ hn).mono ?_
 rintro e w1 ⟨rfl, hb1⟩
 have Km : Known w1 w.heap.size 9 monthA := ((Known.made _ _ _).alloc _).on hb1
 have Kd : Known w1 (w.heap.size + 1) 9 dayA := by
  have := (Known.made (w.alloc (.cells monthA 9)) 9 dayA).on hb1
  simpa using this
 have fm := (Km.alloc (.cells #[.int .i64 (Cal.yOf (n / 1440)), .int .i64 (Cal.mOf (n / 1440)), .int .i64 (Cal.dOf (n / 1440))] 92)).cell ((Cal.mOf (n / 1440)).toNat - 1)
 rw [monthA_at _ a3 a4] at fm
 have fd := (Kd.alloc (.cells #[.int .i64 (Cal.yOf (n / 1440)), .int .i64 (Cal.mOf (n / 1440)), .int .i64 (Cal.dOf (n / 1440))] 92)).cell ((n / 1440 + 5) % 7).toNat
 rw [dayA_at _ (by omega) (by omega)] at fd
 have hb := ((below_new0 w _).then_ (below_new0 _ _)).then_ (hb1.then_ (below_new0 w1 (.cells #[.int .i64 (Cal.yOf (n / 1440)), .int .i64 (Cal.mOf (n / 1440)), .int .i64 (Cal.dOf (n / 1440))] 92)))
 clear Km Kd hb1
 go_wp2_with fail
 refine (weekday_ref_yes n _ hn).mono ?_
 rintro e w2 ⟨rfl, rfl⟩
 go_wp2_with fail
 refine (decimal_any _ _ (by omega) (by omega)).mono ?_
 rintro e w3 ⟨rfl, hb3⟩
 go_wp2_with fail
 go_ret2
 exact ⟨by simp [Cal.val], hb.then_ hb3⟩
theorem code_70 (n : Int) (w : World) (hn : instB n = true) :
  Calls Tryz.prog 96 #[.int .u8 70, .int .i64 n] w fun e w' => e = .returned (.tuple #[.string ⟨(Cal.val 70 n).toArray⟩, .bool true]) ∧ Below w.heap.size w w' := by
 obtain ⟨h1, h2⟩ := instB_iff.1 hn
 obtain ⟨a1, a2, a3, a4, a5, a6, a7⟩ := Cal.dateOf_spec (n / 1440) (by omega) (by omega)
 have a8 := Cal.dim_bd (Cal.yOf (n / 1440)) (Cal.mOf (n / 1440))
 have a9 := Cal.dby_bd (Cal.yOf (n / 1440)) a1 (by omega)
 have a10 := Cal.cum_bd (Cal.yOf (n / 1440)) (Cal.mOf (n / 1440)) a3 a4
 have a11 := Cal.month_three (Cal.mOf (n / 1440))
 have a12 := Cal.day_three ((n / 1440 + 5) % 7 + 1)
 have a13 := Lib.hid (show Cal.cum (Cal.yOf (n / 1440)) (Cal.mOf (n / 1440)) + Cal.dOf (n / 1440) - 1 = n / 1440 - Cal.dby (Cal.yOf (n / 1440)) by omega)
 clear a7
 go_enter Tryz.func96, Tryz.ntmps96
 go_wp2_with fail
 refine (dateOf_ref_yes n _ hn).mono ?_
 rintro e w1 ⟨rfl, hb1⟩
 have Km : Known w1 w.heap.size 9 monthA := ((Known.made _ _ _).alloc _).on hb1
 have Kd : Known w1 (w.heap.size + 1) 9 dayA := by
  have := (Known.made (w.alloc (.cells monthA 9)) 9 dayA).on hb1
  simpa using this
 have fm := (Km.alloc (.cells #[.int .i64 (Cal.yOf (n / 1440)), .int .i64 (Cal.mOf (n / 1440)), .int .i64 (Cal.dOf (n / 1440))] 92)).cell ((Cal.mOf (n / 1440)).toNat - 1)
 rw [monthA_at _ a3 a4] at fm
 have fd := (Kd.alloc (.cells #[.int .i64 (Cal.yOf (n / 1440)), .int .i64 (Cal.mOf (n / 1440)), .int .i64 (Cal.dOf (n / 1440))] 92)).cell ((n / 1440 + 5) % 7).toNat
 rw [dayA_at _ (by omega) (by omega)] at fd
 have hb := ((below_new0 w _).then_ (below_new0 _ _)).then_ (hb1.then_ (below_new0 w1 (.cells #[.int .i64 (Cal.yOf (n / 1440)), .int .i64 (Cal.mOf (n / 1440)), .int .i64 (Cal.dOf (n / 1440))] 92)))
 clear Km Kd hb1
 go_wp2_with fail
 refine (weekday_ref_yes n _ hn).mono ?_
 rintro e w2 ⟨rfl, rfl⟩
 go_wp2_with fail
 go_ret2
 exact ⟨by simp [Cal.val], hb⟩
theorem code_77 (n : Int) (w : World) (hn : instB n = true) :
  Calls Tryz.prog 96 #[.int .u8 77, .int .i64 n] w fun e w' => e = .returned (.tuple #[.string ⟨(Cal.val 77 n).toArray⟩, .bool true]) ∧ Below w.heap.size w w' := by
 obtain ⟨h1, h2⟩ := instB_iff.1 hn
 obtain ⟨a1, a2, a3, a4, a5, a6, a7⟩ := Cal.dateOf_spec (n / 1440) (by omega) (by omega)
 have a8 := Cal.dim_bd (Cal.yOf (n / 1440)) (Cal.mOf (n / 1440))
 have a9 := Cal.dby_bd (Cal.yOf (n / 1440)) a1 (by omega)
 have a10 := Cal.cum_bd (Cal.yOf (n / 1440)) (Cal.mOf (n / 1440)) a3 a4
 have a11 := Cal.month_three (Cal.mOf (n / 1440))
 have a12 := Cal.day_three ((n / 1440 + 5) % 7 + 1)
 have a13 := Lib.hid (show Cal.cum (Cal.yOf (n / 1440)) (Cal.mOf (n / 1440)) + Cal.dOf (n / 1440) - 1 = n / 1440 - Cal.dby (Cal.yOf (n / 1440)) by omega)
 clear a7
 go_enter Tryz.func96, Tryz.ntmps96
 go_wp2_with fail
 refine (dateOf_ref_yes n _ hn).mono ?_
 rintro e w1 ⟨rfl, hb1⟩
 have Km : Known w1 w.heap.size 9 monthA := ((Known.made _ _ _).alloc _).on hb1
 have Kd : Known w1 (w.heap.size + 1) 9 dayA := by
  have := (Known.made (w.alloc (.cells monthA 9)) 9 dayA).on hb1
  simpa using this
 have fm := (Km.alloc (.cells #[.int .i64 (Cal.yOf (n / 1440)), .int .i64 (Cal.mOf (n / 1440)), .int .i64 (Cal.dOf (n / 1440))] 92)).cell ((Cal.mOf (n / 1440)).toNat - 1)
 rw [monthA_at _ a3 a4] at fm
 have fd := (Kd.alloc (.cells #[.int .i64 (Cal.yOf (n / 1440)), .int .i64 (Cal.mOf (n / 1440)), .int .i64 (Cal.dOf (n / 1440))] 92)).cell ((n / 1440 + 5) % 7).toNat
 rw [dayA_at _ (by omega) (by omega)] at fd
 have hb := ((below_new0 w _).then_ (below_new0 _ _)).then_ (hb1.then_ (below_new0 w1 (.cells #[.int .i64 (Cal.yOf (n / 1440)), .int .i64 (Cal.mOf (n / 1440)), .int .i64 (Cal.dOf (n / 1440))] 92)))
 clear Km Kd hb1
 go_wp2_with fail
 refine (weekday_ref_yes n _ hn).mono ?_
 rintro e w2 ⟨rfl, rfl⟩
 go_wp2_with fail
 go_ret2
 exact ⟨by simp [Cal.val, text_take], hb⟩
theorem code_100 (n : Int) (w : World) (hn : instB n = true) :
  Calls Tryz.prog 96 #[.int .u8 100, .int .i64 n] w fun e w' => e = .returned (.tuple #[.string ⟨(Cal.val 100 n).toArray⟩, .bool true]) ∧ Below w.heap.size w w' := by
 obtain ⟨h1, h2⟩ := instB_iff.1 hn
 obtain ⟨a1, a2, a3, a4, a5, a6, a7⟩ := Cal.dateOf_spec (n / 1440) (by omega) (by omega)
 have a8 := Cal.dim_bd (Cal.yOf (n / 1440)) (Cal.mOf (n / 1440))
 have a9 := Cal.dby_bd (Cal.yOf (n / 1440)) a1 (by omega)
 have a10 := Cal.cum_bd (Cal.yOf (n / 1440)) (Cal.mOf (n / 1440)) a3 a4
 have a11 := Cal.month_three (Cal.mOf (n / 1440))
 have a12 := Cal.day_three ((n / 1440 + 5) % 7 + 1)
 have a13 := Lib.hid (show Cal.cum (Cal.yOf (n / 1440)) (Cal.mOf (n / 1440)) + Cal.dOf (n / 1440) - 1 = n / 1440 - Cal.dby (Cal.yOf (n / 1440)) by omega)
 clear a7
 go_enter Tryz.func96, Tryz.ntmps96
 go_wp2_with fail
 refine (dateOf_ref_yes n _ hn).mono ?_
 rintro e w1 ⟨rfl, hb1⟩
 have Km : Known w1 w.heap.size 9 monthA := ((Known.made _ _ _).alloc _).on hb1
 have Kd : Known w1 (w.heap.size + 1) 9 dayA := by
  have := (Known.made (w.alloc (.cells monthA 9)) 9 dayA).on hb1
  simpa using this
 have fm := (Km.alloc (.cells #[.int .i64 (Cal.yOf (n / 1440)), .int .i64 (Cal.mOf (n / 1440)), .int .i64 (Cal.dOf (n / 1440))] 92)).cell ((Cal.mOf (n / 1440)).toNat - 1)
 rw [monthA_at _ a3 a4] at fm
 have fd := (Kd.alloc (.cells #[.int .i64 (Cal.yOf (n / 1440)), .int .i64 (Cal.mOf (n / 1440)), .int .i64 (Cal.dOf (n / 1440))] 92)).cell ((n / 1440 + 5) % 7).toNat
 rw [dayA_at _ (by omega) (by omega)] at fd
 have hb := ((below_new0 w _).then_ (below_new0 _ _)).then_ (hb1.then_ (below_new0 w1 (.cells #[.int .i64 (Cal.yOf (n / 1440)), .int .i64 (Cal.mOf (n / 1440)), .int .i64 (Cal.dOf (n / 1440))] 92)))
 clear Km Kd hb1
 go_wp2_with fail
 refine (weekday_ref_yes n _ hn).mono ?_
 rintro e w2 ⟨rfl, rfl⟩
 go_wp2_with fail
 refine (two_ref _ _ (by omega) (by omega)).mono ?_
 rintro e w3 ⟨rfl, hb3⟩
 go_wp2_with fail
 go_ret2
 exact ⟨by simp [Cal.val], hb.then_ hb3⟩
theorem code_106 (n : Int) (w : World) (hn : instB n = true) :
  Calls Tryz.prog 96 #[.int .u8 106, .int .i64 n] w fun e w' => e = .returned (.tuple #[.string ⟨(Cal.val 106 n).toArray⟩, .bool true]) ∧ Below w.heap.size w w' := by
 obtain ⟨h1, h2⟩ := instB_iff.1 hn
 obtain ⟨a1, a2, a3, a4, a5, a6, a7⟩ := Cal.dateOf_spec (n / 1440) (by omega) (by omega)
 have a8 := Cal.dim_bd (Cal.yOf (n / 1440)) (Cal.mOf (n / 1440))
 have a9 := Cal.dby_bd (Cal.yOf (n / 1440)) a1 (by omega)
 have a10 := Cal.cum_bd (Cal.yOf (n / 1440)) (Cal.mOf (n / 1440)) a3 a4
 have a11 := Cal.month_three (Cal.mOf (n / 1440))
 have a12 := Cal.day_three ((n / 1440 + 5) % 7 + 1)
 have a13 := Lib.hid (show Cal.cum (Cal.yOf (n / 1440)) (Cal.mOf (n / 1440)) + Cal.dOf (n / 1440) - 1 = n / 1440 - Cal.dby (Cal.yOf (n / 1440)) by omega)
 clear a7
 go_enter Tryz.func96, Tryz.ntmps96
 go_wp2_with fail
 refine (dateOf_ref_yes n _ hn).mono ?_
 rintro e w1 ⟨rfl, hb1⟩
 have Km : Known w1 w.heap.size 9 monthA := ((Known.made _ _ _).alloc _).on hb1
 have Kd : Known w1 (w.heap.size + 1) 9 dayA := by
  have := (Known.made (w.alloc (.cells monthA 9)) 9 dayA).on hb1
  simpa using this
 have fm := (Km.alloc (.cells #[.int .i64 (Cal.yOf (n / 1440)), .int .i64 (Cal.mOf (n / 1440)), .int .i64 (Cal.dOf (n / 1440))] 92)).cell ((Cal.mOf (n / 1440)).toNat - 1)
 rw [monthA_at _ a3 a4] at fm
 have fd := (Kd.alloc (.cells #[.int .i64 (Cal.yOf (n / 1440)), .int .i64 (Cal.mOf (n / 1440)), .int .i64 (Cal.dOf (n / 1440))] 92)).cell ((n / 1440 + 5) % 7).toNat
 rw [dayA_at _ (by omega) (by omega)] at fd
 have hb := ((below_new0 w _).then_ (below_new0 _ _)).then_ (hb1.then_ (below_new0 w1 (.cells #[.int .i64 (Cal.yOf (n / 1440)), .int .i64 (Cal.mOf (n / 1440)), .int .i64 (Cal.dOf (n / 1440))] 92)))
 clear Km Kd hb1
 go_wp2_with fail
 refine (weekday_ref_yes n _ hn).mono ?_
 rintro e w2 ⟨rfl, rfl⟩
 go_wp2_with fail
 refine (decimal_any _ _ (by omega) (by omega)).mono ?_
 rintro e w3 ⟨rfl, hb3⟩
 go_wp2_with fail
 go_ret2
 exact ⟨by simp [Cal.val], hb.then_ hb3⟩
theorem code_122 (n : Int) (w : World) (hn : instB n = true) :
  Calls Tryz.prog 96 #[.int .u8 122, .int .i64 n] w fun e w' => e = .returned (.tuple #[.string ⟨(Cal.val 122 n).toArray⟩, .bool true]) ∧ Below w.heap.size w w' := by
 obtain ⟨h1, h2⟩ := instB_iff.1 hn
 obtain ⟨a1, a2, a3, a4, a5, a6, a7⟩ := Cal.dateOf_spec (n / 1440) (by omega) (by omega)
 have a8 := Cal.dim_bd (Cal.yOf (n / 1440)) (Cal.mOf (n / 1440))
 have a9 := Cal.dby_bd (Cal.yOf (n / 1440)) a1 (by omega)
 have a10 := Cal.cum_bd (Cal.yOf (n / 1440)) (Cal.mOf (n / 1440)) a3 a4
 have a11 := Cal.month_three (Cal.mOf (n / 1440))
 have a12 := Cal.day_three ((n / 1440 + 5) % 7 + 1)
 have a13 := Lib.hid (show Cal.cum (Cal.yOf (n / 1440)) (Cal.mOf (n / 1440)) + Cal.dOf (n / 1440) - 1 = n / 1440 - Cal.dby (Cal.yOf (n / 1440)) by omega)
 clear a7
 go_enter Tryz.func96, Tryz.ntmps96
 go_wp2_with fail
 refine (dateOf_ref_yes n _ hn).mono ?_
 rintro e w1 ⟨rfl, hb1⟩
 have Km : Known w1 w.heap.size 9 monthA := ((Known.made _ _ _).alloc _).on hb1
 have Kd : Known w1 (w.heap.size + 1) 9 dayA := by
  have := (Known.made (w.alloc (.cells monthA 9)) 9 dayA).on hb1
  simpa using this
 have fm := (Km.alloc (.cells #[.int .i64 (Cal.yOf (n / 1440)), .int .i64 (Cal.mOf (n / 1440)), .int .i64 (Cal.dOf (n / 1440))] 92)).cell ((Cal.mOf (n / 1440)).toNat - 1)
 rw [monthA_at _ a3 a4] at fm
 have fd := (Kd.alloc (.cells #[.int .i64 (Cal.yOf (n / 1440)), .int .i64 (Cal.mOf (n / 1440)), .int .i64 (Cal.dOf (n / 1440))] 92)).cell ((n / 1440 + 5) % 7).toNat
 rw [dayA_at _ (by omega) (by omega)] at fd
 have hb := ((below_new0 w _).then_ (below_new0 _ _)).then_ (hb1.then_ (below_new0 w1 (.cells #[.int .i64 (Cal.yOf (n / 1440)), .int .i64 (Cal.mOf (n / 1440)), .int .i64 (Cal.dOf (n / 1440))] 92)))
 clear Km Kd hb1
 go_wp2_with fail
 refine (weekday_ref_yes n _ hn).mono ?_
 rintro e w2 ⟨rfl, rfl⟩
 go_wp2_with fail
 refine (before_ref _ _ _ _ (by omega) (by omega) (by omega) (by omega) (by omega) (by omega)).mono ?_
 rintro e w2 ⟨rfl, hb2⟩
 rw [a13.out]
 have hb := hb.then_ hb2
 go_wp2_with fail
 refine (decimal_any _ _ (by omega) (by omega)).mono ?_
 rintro e w3 ⟨rfl, hb3⟩
 go_wp2_with fail
 go_ret2
 exact ⟨by simp [Cal.val], hb.then_ hb3⟩
theorem code_78 (n : Int) (w : World) (hn : instB n = true) :
  Calls Tryz.prog 96 #[.int .u8 78, .int .i64 n] w fun e w' => e = .returned (.tuple #[.string ⟨(Cal.val 78 n).toArray⟩, .bool true]) ∧ Below w.heap.size w w' := by
 obtain ⟨h1, h2⟩ := instB_iff.1 hn
 obtain ⟨a1, a2, a3, a4, a5, a6, a7⟩ := Cal.dateOf_spec (n / 1440) (by omega) (by omega)
 have a8 := Cal.dim_bd (Cal.yOf (n / 1440)) (Cal.mOf (n / 1440))
 have a9 := Cal.dby_bd (Cal.yOf (n / 1440)) a1 (by omega)
 have a10 := Cal.cum_bd (Cal.yOf (n / 1440)) (Cal.mOf (n / 1440)) a3 a4
 have a11 := Cal.month_three (Cal.mOf (n / 1440))
 have a12 := Cal.day_three ((n / 1440 + 5) % 7 + 1)
 have a13 := Lib.hid (show Cal.cum (Cal.yOf (n / 1440)) (Cal.mOf (n / 1440)) + Cal.dOf (n / 1440) - 1 = n / 1440 - Cal.dby (Cal.yOf (n / 1440)) by omega)
 clear a7
 go_enter Tryz.func96, Tryz.ntmps96
 go_wp2_with fail
 refine (dateOf_ref_yes n _ hn).mono ?_
 rintro e w1 ⟨rfl, hb1⟩
 have Km : Known w1 w.heap.size 9 monthA := ((Known.made _ _ _).alloc _).on hb1
 have Kd : Known w1 (w.heap.size + 1) 9 dayA := by
  have := (Known.made (w.alloc (.cells monthA 9)) 9 dayA).on hb1
  simpa using this
 have fm := (Km.alloc (.cells #[.int .i64 (Cal.yOf (n / 1440)), .int .i64 (Cal.mOf (n / 1440)), .int .i64 (Cal.dOf (n / 1440))] 92)).cell ((Cal.mOf (n / 1440)).toNat - 1)
 rw [monthA_at _ a3 a4] at fm
 have fd := (Kd.alloc (.cells #[.int .i64 (Cal.yOf (n / 1440)), .int .i64 (Cal.mOf (n / 1440)), .int .i64 (Cal.dOf (n / 1440))] 92)).cell ((n / 1440 + 5) % 7).toNat
 rw [dayA_at _ (by omega) (by omega)] at fd
 have hb := ((below_new0 w _).then_ (below_new0 _ _)).then_ (hb1.then_ (below_new0 w1 (.cells #[.int .i64 (Cal.yOf (n / 1440)), .int .i64 (Cal.mOf (n / 1440)), .int .i64 (Cal.dOf (n / 1440))] 92)))
 clear Km Kd hb1
 go_wp2_with fail
 refine (weekday_ref_yes n _ hn).mono ?_
 rintro e w2 ⟨rfl, rfl⟩
 go_wp2_with fail
 refine (decimal_any _ _ (by omega) (by omega)).mono ?_
 rintro e w3 ⟨rfl, hb3⟩
 go_wp2_with fail
 go_ret2
 exact ⟨by simp [Cal.val, Cal.wd], hb.then_ hb3⟩
theorem code_108 (n : Int) (w : World) (hn : instB n = true) :
  Calls Tryz.prog 96 #[.int .u8 108, .int .i64 n] w fun e w' => e = .returned (.tuple #[.string ⟨(Cal.val 108 n).toArray⟩, .bool true]) ∧ Below w.heap.size w w' := by
 obtain ⟨h1, h2⟩ := instB_iff.1 hn
 obtain ⟨a1, a2, a3, a4, a5, a6, a7⟩ := Cal.dateOf_spec (n / 1440) (by omega) (by omega)
 have a8 := Cal.dim_bd (Cal.yOf (n / 1440)) (Cal.mOf (n / 1440))
 have a9 := Cal.dby_bd (Cal.yOf (n / 1440)) a1 (by omega)
 have a10 := Cal.cum_bd (Cal.yOf (n / 1440)) (Cal.mOf (n / 1440)) a3 a4
 have a11 := Cal.month_three (Cal.mOf (n / 1440))
 have a12 := Cal.day_three ((n / 1440 + 5) % 7 + 1)
 have a13 := Lib.hid (show Cal.cum (Cal.yOf (n / 1440)) (Cal.mOf (n / 1440)) + Cal.dOf (n / 1440) - 1 = n / 1440 - Cal.dby (Cal.yOf (n / 1440)) by omega)
 clear a7
 go_enter Tryz.func96, Tryz.ntmps96
 go_wp2_with fail
 refine (dateOf_ref_yes n _ hn).mono ?_
 rintro e w1 ⟨rfl, hb1⟩
 have Km : Known w1 w.heap.size 9 monthA := ((Known.made _ _ _).alloc _).on hb1
 have Kd : Known w1 (w.heap.size + 1) 9 dayA := by
  have := (Known.made (w.alloc (.cells monthA 9)) 9 dayA).on hb1
  simpa using this
 have fm := (Km.alloc (.cells #[.int .i64 (Cal.yOf (n / 1440)), .int .i64 (Cal.mOf (n / 1440)), .int .i64 (Cal.dOf (n / 1440))] 92)).cell ((Cal.mOf (n / 1440)).toNat - 1)
 rw [monthA_at _ a3 a4] at fm
 have fd := (Kd.alloc (.cells #[.int .i64 (Cal.yOf (n / 1440)), .int .i64 (Cal.mOf (n / 1440)), .int .i64 (Cal.dOf (n / 1440))] 92)).cell ((n / 1440 + 5) % 7).toNat
 rw [dayA_at _ (by omega) (by omega)] at fd
 have hb := ((below_new0 w _).then_ (below_new0 _ _)).then_ (hb1.then_ (below_new0 w1 (.cells #[.int .i64 (Cal.yOf (n / 1440)), .int .i64 (Cal.mOf (n / 1440)), .int .i64 (Cal.dOf (n / 1440))] 92)))
 clear Km Kd hb1
 go_wp2_with fail
 refine (weekday_ref_yes n _ hn).mono ?_
 rintro e w2 ⟨rfl, rfl⟩
 go_wp2_with fail
 go_ret2
 exact ⟨by simp [Cal.val, Cal.wd], hb⟩
theorem code_68 (n : Int) (w : World) (hn : instB n = true) :
  Calls Tryz.prog 96 #[.int .u8 68, .int .i64 n] w fun e w' => e = .returned (.tuple #[.string ⟨(Cal.val 68 n).toArray⟩, .bool true]) ∧ Below w.heap.size w w' := by
 obtain ⟨h1, h2⟩ := instB_iff.1 hn
 obtain ⟨a1, a2, a3, a4, a5, a6, a7⟩ := Cal.dateOf_spec (n / 1440) (by omega) (by omega)
 have a8 := Cal.dim_bd (Cal.yOf (n / 1440)) (Cal.mOf (n / 1440))
 have a9 := Cal.dby_bd (Cal.yOf (n / 1440)) a1 (by omega)
 have a10 := Cal.cum_bd (Cal.yOf (n / 1440)) (Cal.mOf (n / 1440)) a3 a4
 have a11 := Cal.month_three (Cal.mOf (n / 1440))
 have a12 := Cal.day_three ((n / 1440 + 5) % 7 + 1)
 have a13 := Lib.hid (show Cal.cum (Cal.yOf (n / 1440)) (Cal.mOf (n / 1440)) + Cal.dOf (n / 1440) - 1 = n / 1440 - Cal.dby (Cal.yOf (n / 1440)) by omega)
 clear a7
 go_enter Tryz.func96, Tryz.ntmps96
 go_wp2_with fail
 refine (dateOf_ref_yes n _ hn).mono ?_
 rintro e w1 ⟨rfl, hb1⟩
 have Km : Known w1 w.heap.size 9 monthA := ((Known.made _ _ _).alloc _).on hb1
 have Kd : Known w1 (w.heap.size + 1) 9 dayA := by
  have := (Known.made (w.alloc (.cells monthA 9)) 9 dayA).on hb1
  simpa using this
 have fm := (Km.alloc (.cells #[.int .i64 (Cal.yOf (n / 1440)), .int .i64 (Cal.mOf (n / 1440)), .int .i64 (Cal.dOf (n / 1440))] 92)).cell ((Cal.mOf (n / 1440)).toNat - 1)
 rw [monthA_at _ a3 a4] at fm
 have fd := (Kd.alloc (.cells #[.int .i64 (Cal.yOf (n / 1440)), .int .i64 (Cal.mOf (n / 1440)), .int .i64 (Cal.dOf (n / 1440))] 92)).cell ((n / 1440 + 5) % 7).toNat
 rw [dayA_at _ (by omega) (by omega)] at fd
 have hb := ((below_new0 w _).then_ (below_new0 _ _)).then_ (hb1.then_ (below_new0 w1 (.cells #[.int .i64 (Cal.yOf (n / 1440)), .int .i64 (Cal.mOf (n / 1440)), .int .i64 (Cal.dOf (n / 1440))] 92)))
 clear Km Kd hb1
 go_wp2_with fail
 refine (weekday_ref_yes n _ hn).mono ?_
 rintro e w2 ⟨rfl, rfl⟩
 go_wp2_with fail
 go_ret2
 exact ⟨by simp [Cal.val, Cal.wd, text_take], hb⟩
theorem code_72 (n : Int) (w : World) (hn : instB n = true) :
  Calls Tryz.prog 96 #[.int .u8 72, .int .i64 n] w fun e w' => e = .returned (.tuple #[.string ⟨(Cal.val 72 n).toArray⟩, .bool true]) ∧ Below w.heap.size w w' := by
 obtain ⟨h1, h2⟩ := instB_iff.1 hn
 obtain ⟨a1, a2, a3, a4, a5, a6, a7⟩ := Cal.dateOf_spec (n / 1440) (by omega) (by omega)
 have a8 := Cal.dim_bd (Cal.yOf (n / 1440)) (Cal.mOf (n / 1440))
 have a9 := Cal.dby_bd (Cal.yOf (n / 1440)) a1 (by omega)
 have a10 := Cal.cum_bd (Cal.yOf (n / 1440)) (Cal.mOf (n / 1440)) a3 a4
 have a11 := Cal.month_three (Cal.mOf (n / 1440))
 have a12 := Cal.day_three ((n / 1440 + 5) % 7 + 1)
 have a13 := Lib.hid (show Cal.cum (Cal.yOf (n / 1440)) (Cal.mOf (n / 1440)) + Cal.dOf (n / 1440) - 1 = n / 1440 - Cal.dby (Cal.yOf (n / 1440)) by omega)
 clear a7
 go_enter Tryz.func96, Tryz.ntmps96
 go_wp2_with fail
 refine (dateOf_ref_yes n _ hn).mono ?_
 rintro e w1 ⟨rfl, hb1⟩
 have Km : Known w1 w.heap.size 9 monthA := ((Known.made _ _ _).alloc _).on hb1
 have Kd : Known w1 (w.heap.size + 1) 9 dayA := by
  have := (Known.made (w.alloc (.cells monthA 9)) 9 dayA).on hb1
  simpa using this
 have fm := (Km.alloc (.cells #[.int .i64 (Cal.yOf (n / 1440)), .int .i64 (Cal.mOf (n / 1440)), .int .i64 (Cal.dOf (n / 1440))] 92)).cell ((Cal.mOf (n / 1440)).toNat - 1)
 rw [monthA_at _ a3 a4] at fm
 have fd := (Kd.alloc (.cells #[.int .i64 (Cal.yOf (n / 1440)), .int .i64 (Cal.mOf (n / 1440)), .int .i64 (Cal.dOf (n / 1440))] 92)).cell ((n / 1440 + 5) % 7).toNat
 rw [dayA_at _ (by omega) (by omega)] at fd
 have hb := ((below_new0 w _).then_ (below_new0 _ _)).then_ (hb1.then_ (below_new0 w1 (.cells #[.int .i64 (Cal.yOf (n / 1440)), .int .i64 (Cal.mOf (n / 1440)), .int .i64 (Cal.dOf (n / 1440))] 92)))
 clear Km Kd hb1
 go_wp2_with fail
 refine (weekday_ref_yes n _ hn).mono ?_
 rintro e w2 ⟨rfl, rfl⟩
 go_wp2_with fail
 refine (two_ref _ _ (by omega) (by omega)).mono ?_
 rintro e w3 ⟨rfl, hb3⟩
 go_wp2_with fail
 go_ret2
 exact ⟨by simp [Cal.val], hb.then_ hb3⟩
theorem code_71 (n : Int) (w : World) (hn : instB n = true) :
  Calls Tryz.prog 96 #[.int .u8 71, .int .i64 n] w fun e w' => e = .returned (.tuple #[.string ⟨(Cal.val 71 n).toArray⟩, .bool true]) ∧ Below w.heap.size w w' := by
 obtain ⟨h1, h2⟩ := instB_iff.1 hn
 obtain ⟨a1, a2, a3, a4, a5, a6, a7⟩ := Cal.dateOf_spec (n / 1440) (by omega) (by omega)
 have a8 := Cal.dim_bd (Cal.yOf (n / 1440)) (Cal.mOf (n / 1440))
 have a9 := Cal.dby_bd (Cal.yOf (n / 1440)) a1 (by omega)
 have a10 := Cal.cum_bd (Cal.yOf (n / 1440)) (Cal.mOf (n / 1440)) a3 a4
 have a11 := Cal.month_three (Cal.mOf (n / 1440))
 have a12 := Cal.day_three ((n / 1440 + 5) % 7 + 1)
 have a13 := Lib.hid (show Cal.cum (Cal.yOf (n / 1440)) (Cal.mOf (n / 1440)) + Cal.dOf (n / 1440) - 1 = n / 1440 - Cal.dby (Cal.yOf (n / 1440)) by omega)
 clear a7
 go_enter Tryz.func96, Tryz.ntmps96
 go_wp2_with fail
 refine (dateOf_ref_yes n _ hn).mono ?_
 rintro e w1 ⟨rfl, hb1⟩
 have Km : Known w1 w.heap.size 9 monthA := ((Known.made _ _ _).alloc _).on hb1
 have Kd : Known w1 (w.heap.size + 1) 9 dayA := by
  have := (Known.made (w.alloc (.cells monthA 9)) 9 dayA).on hb1
  simpa using this
 have fm := (Km.alloc (.cells #[.int .i64 (Cal.yOf (n / 1440)), .int .i64 (Cal.mOf (n / 1440)), .int .i64 (Cal.dOf (n / 1440))] 92)).cell ((Cal.mOf (n / 1440)).toNat - 1)
 rw [monthA_at _ a3 a4] at fm
 have fd := (Kd.alloc (.cells #[.int .i64 (Cal.yOf (n / 1440)), .int .i64 (Cal.mOf (n / 1440)), .int .i64 (Cal.dOf (n / 1440))] 92)).cell ((n / 1440 + 5) % 7).toNat
 rw [dayA_at _ (by omega) (by omega)] at fd
 have hb := ((below_new0 w _).then_ (below_new0 _ _)).then_ (hb1.then_ (below_new0 w1 (.cells #[.int .i64 (Cal.yOf (n / 1440)), .int .i64 (Cal.mOf (n / 1440)), .int .i64 (Cal.dOf (n / 1440))] 92)))
 clear Km Kd hb1
 go_wp2_with fail
 refine (weekday_ref_yes n _ hn).mono ?_
 rintro e w2 ⟨rfl, rfl⟩
 go_wp2_with fail
 refine (decimal_any _ _ (by omega) (by omega)).mono ?_
 rintro e w3 ⟨rfl, hb3⟩
 go_wp2_with fail
 go_ret2
 exact ⟨by simp [Cal.val], hb.then_ hb3⟩
theorem code_105 (n : Int) (w : World) (hn : instB n = true) :
  Calls Tryz.prog 96 #[.int .u8 105, .int .i64 n] w fun e w' => e = .returned (.tuple #[.string ⟨(Cal.val 105 n).toArray⟩, .bool true]) ∧ Below w.heap.size w w' := by
 obtain ⟨h1, h2⟩ := instB_iff.1 hn
 obtain ⟨a1, a2, a3, a4, a5, a6, a7⟩ := Cal.dateOf_spec (n / 1440) (by omega) (by omega)
 have a8 := Cal.dim_bd (Cal.yOf (n / 1440)) (Cal.mOf (n / 1440))
 have a9 := Cal.dby_bd (Cal.yOf (n / 1440)) a1 (by omega)
 have a10 := Cal.cum_bd (Cal.yOf (n / 1440)) (Cal.mOf (n / 1440)) a3 a4
 have a11 := Cal.month_three (Cal.mOf (n / 1440))
 have a12 := Cal.day_three ((n / 1440 + 5) % 7 + 1)
 have a13 := Lib.hid (show Cal.cum (Cal.yOf (n / 1440)) (Cal.mOf (n / 1440)) + Cal.dOf (n / 1440) - 1 = n / 1440 - Cal.dby (Cal.yOf (n / 1440)) by omega)
 clear a7
 go_enter Tryz.func96, Tryz.ntmps96
 go_wp2_with fail
 refine (dateOf_ref_yes n _ hn).mono ?_
 rintro e w1 ⟨rfl, hb1⟩
 have Km : Known w1 w.heap.size 9 monthA := ((Known.made _ _ _).alloc _).on hb1
 have Kd : Known w1 (w.heap.size + 1) 9 dayA := by
  have := (Known.made (w.alloc (.cells monthA 9)) 9 dayA).on hb1
  simpa using this
 have fm := (Km.alloc (.cells #[.int .i64 (Cal.yOf (n / 1440)), .int .i64 (Cal.mOf (n / 1440)), .int .i64 (Cal.dOf (n / 1440))] 92)).cell ((Cal.mOf (n / 1440)).toNat - 1)
 rw [monthA_at _ a3 a4] at fm
 have fd := (Kd.alloc (.cells #[.int .i64 (Cal.yOf (n / 1440)), .int .i64 (Cal.mOf (n / 1440)), .int .i64 (Cal.dOf (n / 1440))] 92)).cell ((n / 1440 + 5) % 7).toNat
 rw [dayA_at _ (by omega) (by omega)] at fd
 have hb := ((below_new0 w _).then_ (below_new0 _ _)).then_ (hb1.then_ (below_new0 w1 (.cells #[.int .i64 (Cal.yOf (n / 1440)), .int .i64 (Cal.mOf (n / 1440)), .int .i64 (Cal.dOf (n / 1440))] 92)))
 clear Km Kd hb1
 go_wp2_with fail
 refine (weekday_ref_yes n _ hn).mono ?_
 rintro e w2 ⟨rfl, rfl⟩
 go_wp2_with fail
 refine (two_ref _ _ (by omega) (by omega)).mono ?_
 rintro e w3 ⟨rfl, hb3⟩
 go_wp2_with fail
 go_ret2
 exact ⟨by simp [Cal.val], hb.then_ hb3⟩
theorem code_no (c : UInt8) (n : Int) (w : World) (hc : Cal.isCode c = false) (hn : instB n = true) :
  Calls Tryz.prog 96 #[.int .u8 c.toNat, .int .i64 n] w fun e w' => e = .returned (.tuple #[.string ⟨#[]⟩, .bool false]) ∧ Below w.heap.size w w' := by
 have hx := Cal.isCode_not hc
 have x0 : ((c.toNat : Int) == 89) = false := Cal.byte_ne (hx 89 (by decide))
 have x1 : ((c.toNat : Int) == 109) = false := Cal.byte_ne (hx 109 (by decide))
 have x2 : ((c.toNat : Int) == 110) = false := Cal.byte_ne (hx 110 (by decide))
 have x3 : ((c.toNat : Int) == 70) = false := Cal.byte_ne (hx 70 (by decide))
 have x4 : ((c.toNat : Int) == 77) = false := Cal.byte_ne (hx 77 (by decide))
 have x5 : ((c.toNat : Int) == 100) = false := Cal.byte_ne (hx 100 (by decide))
 have x6 : ((c.toNat : Int) == 106) = false := Cal.byte_ne (hx 106 (by decide))
 have x7 : ((c.toNat : Int) == 122) = false := Cal.byte_ne (hx 122 (by decide))
 have x8 : ((c.toNat : Int) == 78) = false := Cal.byte_ne (hx 78 (by decide))
 have x9 : ((c.toNat : Int) == 108) = false := Cal.byte_ne (hx 108 (by decide))
 have x10 : ((c.toNat : Int) == 68) = false := Cal.byte_ne (hx 68 (by decide))
 have x11 : ((c.toNat : Int) == 72) = false := Cal.byte_ne (hx 72 (by decide))
 have x12 : ((c.toNat : Int) == 71) = false := Cal.byte_ne (hx 71 (by decide))
 have x13 : ((c.toNat : Int) == 105) = false := Cal.byte_ne (hx 105 (by decide))
 clear hx hc
 obtain ⟨h1, h2⟩ := instB_iff.1 hn
 obtain ⟨a1, a2, a3, a4, a5, a6, a7⟩ := Cal.dateOf_spec (n / 1440) (by omega) (by omega)
 have a8 := Cal.dim_bd (Cal.yOf (n / 1440)) (Cal.mOf (n / 1440))
 have a9 := Cal.dby_bd (Cal.yOf (n / 1440)) a1 (by omega)
 have a10 := Cal.cum_bd (Cal.yOf (n / 1440)) (Cal.mOf (n / 1440)) a3 a4
 have a11 := Cal.month_three (Cal.mOf (n / 1440))
 have a12 := Cal.day_three ((n / 1440 + 5) % 7 + 1)
 have a13 := Lib.hid (show Cal.cum (Cal.yOf (n / 1440)) (Cal.mOf (n / 1440)) + Cal.dOf (n / 1440) - 1 = n / 1440 - Cal.dby (Cal.yOf (n / 1440)) by omega)
 clear a7
 go_enter Tryz.func96, Tryz.ntmps96
 go_wp2_with fail
 refine (dateOf_ref_yes n _ hn).mono ?_
 rintro e w1 ⟨rfl, hb1⟩
 have Km : Known w1 w.heap.size 9 monthA := ((Known.made _ _ _).alloc _).on hb1
 have Kd : Known w1 (w.heap.size + 1) 9 dayA := by
  have := (Known.made (w.alloc (.cells monthA 9)) 9 dayA).on hb1
  simpa using this
 have fm := (Km.alloc (.cells #[.int .i64 (Cal.yOf (n / 1440)), .int .i64 (Cal.mOf (n / 1440)), .int .i64 (Cal.dOf (n / 1440))] 92)).cell ((Cal.mOf (n / 1440)).toNat - 1)
 rw [monthA_at _ a3 a4] at fm
 have fd := (Kd.alloc (.cells #[.int .i64 (Cal.yOf (n / 1440)), .int .i64 (Cal.mOf (n / 1440)), .int .i64 (Cal.dOf (n / 1440))] 92)).cell ((n / 1440 + 5) % 7).toNat
 rw [dayA_at _ (by omega) (by omega)] at fd
 have hb := ((below_new0 w _).then_ (below_new0 _ _)).then_ (hb1.then_ (below_new0 w1 (.cells #[.int .i64 (Cal.yOf (n / 1440)), .int .i64 (Cal.mOf (n / 1440)), .int .i64 (Cal.dOf (n / 1440))] 92)))
 clear Km Kd hb1
 go_wp2_with fail
 refine (weekday_ref_yes n _ hn).mono ?_
 rintro e w2 ⟨rfl, rfl⟩
 go_wp2_with fail
 go_ret2
 exact ⟨rfl, hb⟩
theorem code_yes (c : UInt8) (n : Int) (w : World) (hc : Cal.isCode c = true) (hn : instB n = true) :
  Calls Tryz.prog 96 #[.int .u8 c.toNat, .int .i64 n] w fun e w' => e = .returned (.tuple #[.string ⟨(Cal.val c n).toArray⟩, .bool true]) ∧ Below w.heap.size w w' := by
 rcases Cal.isCode_cases hc with rfl | rfl | rfl | rfl | rfl | rfl | rfl | rfl | rfl | rfl | rfl | rfl | rfl | rfl
 ·exact code_89 n w hn
 ·exact code_109 n w hn
 ·exact code_110 n w hn
 ·exact code_70 n w hn
 ·exact code_77 n w hn
 ·exact code_100 n w hn
 ·exact code_106 n w hn
 ·exact code_122 n w hn
 ·exact code_78 n w hn
 ·exact code_108 n w hn
 ·exact code_68 n w hn
 ·exact code_72 n w hn
 ·exact code_71 n w hn
 ·exact code_105 n w hn
theorem formatRef_no (s : ByteArray) (n : Int) (w : World) (hn : instB n = false) :
  Calls Tryz.prog 43 #[.string s, .int .i64 n] w fun e w' => e = .returned (.tuple #[.string ⟨#[]⟩, .int .i64 2]) ∧ Below w.heap.size w w' := by
 go_enter Tryz.func43, Tryz.ntmps43
 go_wp2_with (go_at_call 95; refine (instant_ref _ _).mono ?_; rintro e w' ⟨rfl, rfl⟩)
 go_ret2
 exact ⟨rfl, Below.refl _ _⟩
theorem formatRef_long (s : ByteArray) (n : Int) (w : World) (hs : s.size ≤ 1000000) (hl : 400 < s.size) (hn : instB n = true) :
  Calls Tryz.prog 43 #[.string s, .int .i64 n] w fun e w' => e = .returned (.tuple #[.string ⟨#[]⟩, .int .i64 3]) ∧ Below w.heap.size w w' := by
 go_enter Tryz.func43, Tryz.ntmps43
 go_wp2_with (go_at_call 95; refine (instant_ref _ _).mono ?_; rintro e w' ⟨rfl, rfl⟩)
 go_ret2
 exact ⟨rfl, Below.refl _ _⟩
theorem fmt_one (n : Int) (done : List (UInt8 × Bool)) (c : UInt8) : Cal.fmt n (done ++ [(c, false)]) = Cal.fmt n done ++ [c] := by rw [Cal.fmt_snoc]; rfl
theorem fmt_code (n : Int) (done : List (UInt8 × Bool)) (c : UInt8) (h : Cal.isCode c = true) : Cal.fmt n (done ++ [(c, Cal.isCode c)]) = Cal.fmt n done ++ Cal.val c n := by rw [Cal.fmt_snoc, h]; rfl
theorem byte_cut (s : ByteArray) (k : Nat) (h : k < s.size) : s.extract k (k + 1) = ⟨#[s[k]]⟩ := by
 apply ByteArray.ext
 apply Array.ext'
 simp only [ByteArray.data_extract]
 rw [Array.toList_extract, List.extract_eq_take_drop]
 rw [drop_one s k h]
 simp
theorem str_snoc (l : List UInt8) (c : UInt8) : (ByteArray.mk l.toArray) ++ ⟨#[c]⟩ = ⟨(l ++ [c]).toArray⟩ := ByteArray.mk_append_mk l [c]
theorem formatRef_yes (s : ByteArray) (n : Int) (w : World) (hl : s.size ≤ 400) (hn : instB n = true) :
  Calls Tryz.prog 43 #[.string s, .int .i64 n] w fun e w' => e = .returned (.tuple #[.string ⟨(Cal.fmt n (Cal.evs s.data.toList)).toArray⟩, .int .i64 0]) ∧ Below w.heap.size w w' := by
 obtain ⟨n1, n2⟩ := instB_iff.1 hn
 go_enter Tryz.func43, Tryz.ntmps43
 go_wp2_with (go_at_call 95; refine (instant_ref _ _).mono ?_; rintro e w' ⟨rfl, rfl⟩)
 go_loopg [6, 7] (s.size + 1) (fun g t i wr => ∃ (k : Nat) (done : List (UInt8 × Bool)), k ≤ s.size ∧ s.size - k < g ∧ i = .int .i64 k ∧ done.length ≤ k ∧ Cal.evs s.data.toList = done ++ Cal.evs (s.data.toList.drop k) ∧ t = .string ⟨(Cal.fmt n done).toArray⟩ ∧ Below w.heap.size w wr)
 case atStart => exact ⟨0, [], by omega, by omega, rfl, by simp, by simp, rfl, Below.refl _ _⟩
 case round =>
  obtain ⟨k, done, hk, hg, rfl, hdl, hev, rfl, hbel⟩ := hrel
  have HE := Lib.hid hev
  clear hev
  have hfl := Cal.fmt_len n n1 n2 done
  by_cases hlt : k < s.size
  ·have hcut := Lib.hid (byte_cut s k hlt)
   go_wp2_with fail
   ·have hc : (s[k].toNat : Int) = 92 := by assumption
    have hk1 : k + 1 < s.size := by omega
    go_roundg (s.size - (k + 2) + 1)
    case measure => omega
    case rel => exact ⟨k + 2, _, by omega, by omega, by go_num, by simp; omega, ev_back hk1 hc HE.out, by rw [byte_cut s (k + 1) hk1, str_snoc, fmt_one], hbel⟩
   ·have hc : (s[k].toNat : Int) = 92 := by assumption
    have hk1 : s.size ≤ k + 1 := by omega
    have e : s[k] = 92 := byte92 hc
    have HE2 := Lib.hid (ev_plain hlt (.inr hk1) HE.out)
    rw [e] at HE2 hcut
    refine (code_no 92 n _ (by decide) hn).mono ?_
    rintro e w2 ⟨rfl, hb2⟩
    go_wp2_with fail
    go_roundg (s.size - (k + 1) + 1)
    case measure => omega
    case rel => exact ⟨k + 1, _, by omega, by omega, by go_num, by simp; omega, HE2.out, by rw [hcut.out, str_snoc, ← fmt_one]; rfl, hbel.then_ hb2⟩
   ·have hc : ¬ (s[k].toNat : Int) = 92 := by assumption
    have HE2 := Lib.hid (ev_plain hlt (.inl hc) HE.out)
    cases hcd : Cal.isCode s[k]
    ·have hcd' := Lib.hid hcd
     refine (code_no s[k] n _ hcd hn).mono ?_
     clear hcd
     rintro e w2 ⟨rfl, hb2⟩
     go_wp2_with fail
     go_roundg (s.size - (k + 1) + 1)
     case measure => omega
     case rel => exact ⟨k + 1, _, by omega, by omega, by go_num, by simp; omega, HE2.out, by rw [hcut.out, str_snoc, hcd'.out, fmt_one], hbel.then_ hb2⟩
    ·have hcd' := Lib.hid hcd
     have hv := Cal.val_len s[k] n n1 n2
     refine (code_yes s[k] n _ hcd hn).mono ?_
     clear hcd
     rintro e w2 ⟨rfl, hb2⟩
     go_wp2_with fail
     go_roundg (s.size - (k + 1) + 1)
     case measure => omega
     case rel => exact ⟨k + 1, _, by omega, by omega, by go_num, by simp; omega, HE2.out, by rw [fmt_code n done _ hcd'.out, ByteArray.mk_append_mk], hbel.then_ hb2⟩
  ·go_wp2_with fail
   go_ret2
   refine ⟨?_, hbel⟩
   rw [HE.out, drop_all s k (by omega)]
   simp [Cal.evs]
def fmtT (s : ByteArray) (n : Int) : List UInt8 := if instB n = true ∧ s.size ≤ 400 then Cal.fmt n (Cal.evs s.data.toList) else []
def fmtE (s : ByteArray) (n : Int) : Int := if instB n = true then (if s.size ≤ 400 then 0 else 3) else 2
theorem format_any (s : ByteArray) (n : Int) (w : World) (hs : s.size ≤ 1000000) (ht : Tab w) :
  Calls Tryz.prog 32 #[.string s, .int .i64 n] w fun e w' => e = .returned (.tuple #[.string ⟨(fmtT s n).toArray⟩, .int .i64 (fmtE s n)]) ∧ Below w.heap.size w w' := by
 cases h : instB n
 ·simp only [fmtT, fmtE, h, Bool.false_eq_true, false_and, if_false]
  exact format_no s n w h
 ·by_cases hl : s.size ≤ 400
  ·simp only [fmtT, fmtE, h, hl, and_self, if_true]
   exact format_yes s n w hl h ht
  ·simp only [fmtT, fmtE, h, hl, and_false, if_true, if_false]
   exact format_long s n w hs (by omega) h
theorem format_ref (s : ByteArray) (n : Int) (w : World) (hs : s.size ≤ 1000000) :
  Calls Tryz.prog 43 #[.string s, .int .i64 n] w fun e w' => e = .returned (.tuple #[.string ⟨(fmtT s n).toArray⟩, .int .i64 (fmtE s n)]) ∧ Below w.heap.size w w' := by
 cases h : instB n
 ·simp only [fmtT, fmtE, h, Bool.false_eq_true, false_and, if_false]
  exact formatRef_no s n w h
 ·by_cases hl : s.size ≤ 400
  ·simp only [fmtT, fmtE, h, hl, and_self, if_true]
   exact formatRef_yes s n w hl h
  ·simp only [fmtT, fmtE, h, hl, and_false, if_true, if_false]
   exact formatRef_long s n w hs (by omega) h
end Go.Proofs.YtcklofamaooegaaGreatDoor
