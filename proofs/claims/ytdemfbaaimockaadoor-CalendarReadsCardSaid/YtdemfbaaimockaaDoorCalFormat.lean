/-
  calendar.Format and calendar.Unit: the text of a pattern, its unit, by the program. Conditions: those typed in each theorem; the library's table of powers of ten as it is laid.
-/
import Derived.Test.YtdemfbaaimockaaDoorBuf
import Derived.Test.YtdemfbaaimockaaDoorCalValue
import Derived.Test.YtdemfbaaimockaaDoorCalCodes
namespace Go.Proofs.YtdemfbaaimockaaDoor
open Go.RowKit

/-- What holds behind the calls of Format's closure so far: block b is the builder, block m the minute's. -/
def FI (w : World) (b m : Nat) (n : Int) (done : List (UInt8 × Bool)) (w' : World) : Prop :=
  Buf b (Cal.fmt n done) w' ∧ w'.cell? ⟨m, 0, none⟩ = some (.int .i64 n) ∧ Below w.heap.size w w'

set_option maxHeartbeats 1000000 in
theorem format_call (w : World) (b m : Nat) (n : Int) (N : Nat) (hN : N ≤ 1000) (hn : instB n = true) (hm : m < b) (hb : w.heap.size ≤ b) (ht : Tab w) :
    Hands N 38 #[.pointer (some ⟨b, 0, none⟩), .pointer (some ⟨m, 0, none⟩)] (FI w b m n) := by
  intro done c cb w1 hlen hc hI
  obtain ⟨hbuf, hcell, hbel⟩ := hI
  obtain ⟨h1, h2⟩ := instB_iff.1 hn
  have hl := Cal.fmt_len n h1 h2 done
  have hv := Cal.val_len c n h1 h2
  have htab := ht.on hbel
  have hlt := hbuf.lt
  cases cb
  · show Calls Tryd.prog 38 #[.int .u8 c.toNat, .bool false, .pointer (some ⟨b, 0, none⟩), .pointer (some ⟨m, 0, none⟩)] w1 _
    go_enter Tryd.func38, Tryd.ntmps38
    go_wp2_with fail
    refine (buf_byte b _ c w1 hbuf (by omega)).mono ?_
    rintro e w2 ⟨rfl, hbuf2, hr⟩
    go_wp2_with fail
    go_end0
    exact ⟨rfl, by rw [Cal.fmt_snoc]; exact hbuf2, (hr.1.cell (p := ⟨m, 0, none⟩) hm).trans hcell, hbel.trans (hr.1.mono hb)⟩
  · have hc' := hc rfl
    clear hc
    show Calls Tryd.prog 38 #[.int .u8 c.toNat, .bool true, .pointer (some ⟨b, 0, none⟩), .pointer (some ⟨m, 0, none⟩)] w1 _
    go_enter Tryd.func38, Tryd.ntmps38
    go_wp2_with fail
    refine (value_any c n w1 hc' hn htab).mono ?_
    rintro e w2 ⟨rfl, hb2⟩
    have hbuf2 := hbuf.on hb2
    go_wp2_with fail
    refine (buf_string b _ _ w2 hbuf2 (by rw [ByteArray.size]; simp; omega)).mono ?_
    rintro e w3 ⟨rfl, hbuf3, hr⟩
    go_wp2_with fail
    go_end0
    refine ⟨rfl, ?_, ?_, ?_⟩
    · rw [Cal.fmt_snoc]; simpa [Cal.piece] using hbuf3
    · rw [hr.1.cell (p := ⟨m, 0, none⟩) hm, hb2.cell (p := ⟨m, 0, none⟩) (by show m < _; omega)]; exact hcell
    · exact (hbel.trans (hb2.mono (by omega))).trans (hr.1.mono hb)

theorem enters_format : ∀ args w, (callFunc 38 args).run Tryd.prog w = .ok (.enter 38 args) w := enters_of Tryd.func38 (by kernel_rfl) rfl

theorem format_no (s : ByteArray) (n : Int) (w : World) (hn : instB n = false) :
    Calls Tryd.prog 20 #[.string s, .int .i64 n] w fun e w' => e = .returned (.tuple #[.string ⟨#[]⟩, .int .i64 2]) ∧ Below w.heap.size w w' := by
  go_enter Tryd.func20, Tryd.ntmps20
  go_wp2_with (go_at_call 35; refine (instant_any _ _).mono ?_; rintro e w' ⟨rfl, rfl⟩)
  go_ret2
  exact ⟨rfl, below_new0 _ _⟩
theorem format_long (s : ByteArray) (n : Int) (w : World) (hs : s.size ≤ 1000000) (hl : 400 < s.size) (hn : instB n = true) :
    Calls Tryd.prog 20 #[.string s, .int .i64 n] w fun e w' => e = .returned (.tuple #[.string ⟨#[]⟩, .int .i64 3]) ∧ Below w.heap.size w w' := by
  go_enter Tryd.func20, Tryd.ntmps20
  go_wp2_with (go_at_call 35; refine (instant_any _ _).mono ?_; rintro e w' ⟨rfl, rfl⟩)
  go_ret2
  exact ⟨rfl, below_new0 _ _⟩
set_option maxHeartbeats 1000000 in
theorem format_yes (s : ByteArray) (n : Int) (w : World) (hl : s.size ≤ 400) (hn : instB n = true) (ht : Tab w) :
    Calls Tryd.prog 20 #[.string s, .int .i64 n] w fun e w' => e = .returned (.tuple #[.string ⟨(Cal.fmt n (Cal.evs s.data.toList)).toArray⟩, .int .i64 0]) ∧ Below w.heap.size w w' := by
  go_enter Tryd.func20, Tryd.ntmps20
  go_wp2_with (go_at_call 35; refine (instant_any _ _).mono ?_; rintro e w' ⟨rfl, rfl⟩)
  have hI : FI w (w.heap.size + 1) w.heap.size n [] ((w.alloc (.cells #[.int .i64 n] 3)).alloc (.cells #[.pointer none, .slice none 0 0] 49)) := by
    have hb := buf_new (w.alloc (.cells #[.int .i64 n] 3))
    simp only [World.size_alloc] at hb
    exact ⟨hb, by simp, (below_new0 _ _).trans ((below_new0 _ _).mono (by simp))⟩
  refine (codes_any s 38 _ (FI w (w.heap.size + 1) w.heap.size n) _ (by omega) enters_format (format_call w (w.heap.size + 1) w.heap.size n s.size (by omega) hn (by omega) (by omega) ht) hI).mono ?_
  rintro e w1 ⟨rfl, hbuf, _, hbel⟩
  clear hI
  go_wp2_with fail
  refine (buf_text _ _ _ hbuf).mono ?_
  rintro e w2 ⟨rfl, hbuf2, hr⟩
  go_wp2_with fail
  go_ret2
  exact ⟨rfl, hbel.trans (hr.1.mono (by omega))⟩
end Go.Proofs.YtdemfbaaimockaaDoor
