/-
  The claim's own texts, packed. Conditions: those typed in each theorem.
-/
import Derived.Test.YtcklofamaooegaaGreatDoorZKaat
import Derived.Test.YtcklofamaooegaaGreatDoorZKabd
import Derived.Test.YtcklofamaooegaaGreatDoorZKaas
import Derived.Test.YtcklofamaooegaaGreatDoorZKaae
import Derived.Test.YtcklofamaooegaaGreatDoorZKaag
import Derived.Test.YtcklofamaooegaaGreatDoorZKaac
set_option maxHeartbeats 4000000
set_option maxRecDepth 10000
set_option linter.unusedVariables false
namespace Go.Proofs.YtcklofamaooegaaGreatDoor
open Go.RowKit
def FI (w : World) (b m : Nat) (n : Int) (done : List (UInt8 × Bool)) (w' : World) : Prop :=
 Buf b (Cal.fmt n done) w' ∧ w'.cell? ⟨m, 0, none⟩ = some (.int .i64 n) ∧ Below w.heap.size w w'
theorem format_call (w : World) (b m : Nat) (n : Int) (N : Nat) (hN : N ≤ 1000) (hn : instB n = true) (hm : m < b) (hb : w.heap.size ≤ b) (ht : Tab w) :
  Hands N 70 #[.pointer (some ⟨b, 0, none⟩), .pointer (some ⟨m, 0, none⟩)] (FI w b m n) := by
 intro done c cb w1 hlen hc hI
 obtain ⟨hbuf, hcell, hbel⟩ := hI
 obtain ⟨h1, h2⟩ := instB_iff.1 hn
 have hl := Cal.fmt_len n h1 h2 done
 have hv := Cal.val_len c n h1 h2
 have htab := ht.on hbel
 have hlt := hbuf.lt
 cases cb
 ·show Calls Tryz.prog 70 #[.int .u8 c.toNat, .bool false, .pointer (some ⟨b, 0, none⟩), .pointer (some ⟨m, 0, none⟩)] w1 _
  go_enter Tryz.func70, Tryz.ntmps70
  go_wp2_with fail
  refine (buf_byte b _ c w1 hbuf (by omega)).mono ?_
  rintro e w2 ⟨rfl, hbuf2, hr⟩
  go_wp2_with fail
  go_end0
  exact ⟨rfl, by rw [Cal.fmt_snoc]; exact hbuf2, (hr.1.cell (p := ⟨m, 0, none⟩) hm).trans hcell, hbel.trans (hr.1.mono hb)⟩
 ·have hc' := hc rfl
  clear hc
  show Calls Tryz.prog 70 #[.int .u8 c.toNat, .bool true, .pointer (some ⟨b, 0, none⟩), .pointer (some ⟨m, 0, none⟩)] w1 _
  go_enter Tryz.func70, Tryz.ntmps70
  go_wp2_with fail
  refine (value_any c n w1 hc' hn htab).mono ?_
  rintro e w2 ⟨rfl, hb2⟩
  have hbuf2 := hbuf.on hb2
  go_wp2_with fail
  refine (buf_string b _ _ w2 hbuf2 (by rw [ByteArray.size]; simp; omega)).mono ?_
  rintro e w3 ⟨rfl, hbuf3, hr⟩
  go_wp2_with fail
  go_end0
  refine ⟨rfl, ?_, ?_, ?_⟩
  ·rw [Cal.fmt_snoc]; simpa [Cal.piece] using hbuf3
  ·rw [hr.1.cell (p := ⟨m, 0, none⟩) hm, hb2.cell (p := ⟨m, 0, none⟩) (by show m < _; omega)]; exact hcell
  ·exact (hbel.trans (hb2.mono (by omega))).trans (hr.1.mono hb)
theorem enters_format : ∀ args w, (callFunc 70 args).run Tryz.prog w = .ok (.enter 70 args) w := enters_of Tryz.func70 (by kernel_rfl) rfl
theorem format_no (s : ByteArray) (n : Int) (w : World) (hn : instB n = false) :
  Calls Tryz.prog 32 #[.string s, .int .i64 n] w fun e w' => e = .returned (.tuple #[.string ⟨#[]⟩, .int .i64 2]) ∧ Below w.heap.size w w' := by
 go_enter Tryz.func32, Tryz.ntmps32
 go_wp2_with (go_at_call 68; refine (instant_any _ _).mono ?_; rintro e w' ⟨rfl, rfl⟩)
 go_ret2
 exact ⟨rfl, below_new0 _ _⟩
theorem format_long (s : ByteArray) (n : Int) (w : World) (hs : s.size ≤ 1000000) (hl : 400 < s.size) (hn : instB n = true) :
  Calls Tryz.prog 32 #[.string s, .int .i64 n] w fun e w' => e = .returned (.tuple #[.string ⟨#[]⟩, .int .i64 3]) ∧ Below w.heap.size w w' := by
 go_enter Tryz.func32, Tryz.ntmps32
 go_wp2_with (go_at_call 68; refine (instant_any _ _).mono ?_; rintro e w' ⟨rfl, rfl⟩)
 go_ret2
 exact ⟨rfl, below_new0 _ _⟩
theorem format_yes (s : ByteArray) (n : Int) (w : World) (hl : s.size ≤ 400) (hn : instB n = true) (ht : Tab w) :
  Calls Tryz.prog 32 #[.string s, .int .i64 n] w fun e w' => e = .returned (.tuple #[.string ⟨(Cal.fmt n (Cal.evs s.data.toList)).toArray⟩, .int .i64 0]) ∧ Below w.heap.size w w' := by
 go_enter Tryz.func32, Tryz.ntmps32
 go_wp2_with (go_at_call 68; refine (instant_any _ _).mono ?_; rintro e w' ⟨rfl, rfl⟩)
 have hI : FI w (w.heap.size + 1) w.heap.size n [] ((w.alloc (.cells #[.int .i64 n] 3)).alloc (.cells #[.pointer none, .slice none 0 0] 95)) := by
  have hb := buf_new (w.alloc (.cells #[.int .i64 n] 3))
  simp only [World.size_alloc] at hb
  exact ⟨hb, by simp, (below_new0 _ _).trans ((below_new0 _ _).mono (by simp))⟩
 refine (codes_any s 70 _ (FI w (w.heap.size + 1) w.heap.size n) _ (by omega) enters_format (format_call w (w.heap.size + 1) w.heap.size n s.size (by omega) hn (by omega) (by omega) ht) hI).mono ?_
 rintro e w1 ⟨rfl, hbuf, _, hbel⟩
 clear hI
 go_wp2_with fail
 refine (buf_text _ _ _ hbuf).mono ?_
 rintro e w2 ⟨rfl, hbuf2, hr⟩
 go_wp2_with fail
 go_ret2
 exact ⟨rfl, hbel.trans (hr.1.mono (by omega))⟩
theorem minute_any (y m d c : Int) (w : World) :
  Calls Tryz.prog 67 #[.agg #[.int .i64 y, .int .i64 m, .int .i64 d], .int .i64 c] w fun e w' => e = .returned (.tuple #[.int .i64 (Cal.minV y m d c), .int .i64 (Cal.minE y m d c)]) ∧ Below w.heap.size w w' := by
 cases h : Cal.vd y m d c
 ·rw [Cal.minV_no h, Cal.minE_no h]; exact minute_no y m d c w h
 ·rw [Cal.minV_yes h, Cal.minE_yes h]; exact minute_yes y m d c w h
end Go.Proofs.YtcklofamaooegaaGreatDoor
set_option linter.unusedVariables false
namespace Go.Proofs.YtcklofamaooegaaGreatDoor
open Go.RowKit
def fmtT (s : ByteArray) (n : Int) : List UInt8 := if instB n = true ∧ s.size ≤ 400 then Cal.fmt n (Cal.evs s.data.toList) else []
def fmtE (s : ByteArray) (n : Int) : Int := if instB n = true then (if s.size ≤ 400 then 0 else 3) else 2
theorem format_any (s : ByteArray) (n : Int) (w : World) (hs : s.size ≤ 1000000) (ht : Tab w) :
  Calls Tryz.prog 32 #[.string s, .int .i64 n] w fun e w' => e = .returned (.tuple #[.string ⟨(fmtT s n).toArray⟩, .int .i64 (fmtE s n)]) ∧ Below w.heap.size w w' := by
 cases h : instB n
 ·simp only [fmtT, fmtE, h, Bool.false_eq_true, false_and, if_false]
  exact format_no s n w h
 ·by_cases hl : s.size ≤ 400
  ·simp only [fmtT, fmtE, h, hl, and_self, if_true]
   exact format_yes s n w hl h ht
  ·simp only [fmtT, fmtE, h, hl, and_false, if_true, if_false]
   exact format_long s n w hs (by omega) h
end Go.Proofs.YtcklofamaooegaaGreatDoor
