/-
  The claim's own texts, packed. Conditions: those typed in each theorem.
-/
import Derived.Test.YtcklofamaooegaaGreatDoorZKaae
import Derived.Deep.LoopGhost
set_option maxHeartbeats 4000000
set_option maxRecDepth 10000
set_option linter.unusedVariables false
namespace Go.Proofs.YtcklofamaooegaaGreatDoor
open Go.RowKit
theorem dateOf_no (n : Int) (w : World) (h : instB n = false) :
  Calls Tryz.prog 121 #[.int .i64 n] w fun e w' => e = .returned (.tuple #[.agg #[.int .i64 0, .int .i64 0, .int .i64 0], .int .i64 0, .int .i64 2]) ∧ Below w.heap.size w w' := by
 go_enter Tryz.func121, Tryz.ntmps121
 go_wp2_with (go_at_call 68; refine (instant_any _ _).mono ?_; rintro e w' ⟨rfl, rfl⟩)
 exact bodyPost_ret (v := .tuple #[.agg #[.int .i64 0, .int .i64 0, .int .i64 0], .int .i64 0, .int .i64 2]) (by simp [results, Tryz.results121, go_sem]) rfl ⟨rfl, below_new0 _ _⟩
theorem dby_mono {y z : Int} (h : y ≤ z) : Cal.dby y ≤ Cal.dby z := by unfold Cal.dby; omega
theorem cum_mono {y : Int} {m k : Int} (h1 : 1 ≤ m) (h2 : m ≤ k) (h3 : k ≤ 12) : Cal.cum y m ≤ Cal.cum y k := by
 rcases Cal.twelve h1 (by omega) with rfl | rfl | rfl | rfl | rfl | rfl | rfl | rfl | rfl | rfl | rfl | rfl <;>
 rcases Cal.twelve (m := k) (by omega) h3 with rfl | rfl | rfl | rfl | rfl | rfl | rfl | rfl | rfl | rfl | rfl | rfl <;> first | omega | (simp [Cal.cum]; try omega)
theorem dateOf_yes (n : Int) (w : World) (h : instB n = true) :
  Calls Tryz.prog 121 #[.int .i64 n] w fun e w' => e = .returned (.tuple #[.agg #[.int .i64 (Cal.yOf (n / 1440)), .int .i64 (Cal.mOf (n / 1440)), .int .i64 (Cal.dOf (n / 1440))], .int .i64 (n % 1440), .int .i64 0]) ∧ Below w.heap.size w w' := by
 obtain ⟨h1, h2⟩ := instB_iff.1 h
 obtain ⟨a1, a2, a3, a4, a5, a6, a7⟩ := Cal.dateOf_spec (n / 1440) (by omega) (by omega)
 have hs := Cal.cum_succ (Cal.yOf (n / 1440)) (Cal.mOf (n / 1440)) a3 a4
 have hyb := (Cal.yOf_bd (n / 1440) (by omega) (by omega)).2.2
 have hdb := Cal.dby_bd (Cal.yOf (n / 1440)) a1 (by omega)
 have hcb := Cal.cum_bd (Cal.yOf (n / 1440)) _ a3 a4
 have hmb := Cal.dim_bd (Cal.yOf (n / 1440)) (Cal.mOf (n / 1440))
 generalize hY : Cal.yOf (n / 1440) = Y at *
 generalize hM : Cal.mOf (n / 1440) = M at *
 generalize hD : Cal.dOf (n / 1440) = D at *
 have HD : Cal.dby Y + Cal.cum Y M + D = n / 1440 + 1 := by omega
 have Hs := Lib.hid hs
 have HD' := Lib.hid HD
 clear hs hY hM hD a7 HD
 go_enter Tryz.func121, Tryz.ntmps121
 go_wp2_with (go_at_call 68; refine (instant_any _ _).mono ?_; rintro e w' ⟨rfl, rfl⟩)
 go_loopg [] 100 (fun g wr => ∃ y : Int, 2000 ≤ y ∧ y ≤ Y ∧ (Y - y).toNat ≤ g ∧ wr = (w.alloc (.cells #[.int .i64 0, .int .i64 0, .int .i64 0] 92)).alloc (.cells #[.int .i64 y, .int .i64 1, .int .i64 0] 92))
 case atStart => exact ⟨2000, by omega, by omega, by omega, rfl⟩
 case round =>
  obtain ⟨y, hy1, hy2, hg, rfl⟩ := hrel
  have b1 := Cal.dby_bd (y + 1) (by omega) (by omega)
  by_cases hlt : y < Y
  ·have b2 := dby_mono (show y + 1 ≤ Y by omega)
   have b3 : Cal.dby (y + 1) ≤ n / 1440 := by omega
   go_wp2_with (go_at_call 126; refine (before_any _ _ (by omega) (by omega)).mono ?_; rintro e w' ⟨rfl, rfl⟩)
   go_roundg ((Y - (y + 1)).toNat)
   case measure => omega
   case rel => exact ⟨y + 1, by omega, by omega, Nat.le_refl _, rfl⟩
  ·obtain rfl : y = Y := by omega
   have b3 : n / 1440 < Cal.dby (y + 1) := by omega
   go_wp2_with (go_at_call 126; refine (before_any _ _ (by omega) (by omega)).mono ?_; rintro e w' ⟨rfl, rfl⟩)
   go_loopg [5] 100 (fun g s5 wr => ∃ m : Int, 1 ≤ m ∧ m ≤ M ∧ (M - m).toNat ≤ g ∧ s5 = .int .i64 (n / 1440 - Cal.dby y - Cal.cum y m) ∧ wr = (w.alloc (.cells #[.int .i64 0, .int .i64 0, .int .i64 0] 92)).alloc (.cells #[.int .i64 y, .int .i64 m, .int .i64 0] 92))
   case atStart => exact ⟨1, by omega, by omega, by omega, by rw [Cal.cum_one, Int.sub_zero], rfl⟩
   case round =>
    obtain ⟨m, hm1, hm2, hg2, rfl, rfl⟩ := hrel
    have c1 := Cal.cum_bd y m hm1 (by omega)
    have c2 := Cal.dim_bd y m
    by_cases hlt2 : m < M
    ·have c3 := Lib.hid (Cal.cum_succ y m hm1 (by omega))
     have c4 := cum_mono (y := y) (show 1 ≤ m + 1 by omega) (show m + 1 ≤ M by omega) a4
     have c5 : Cal.dim y m ≤ n / 1440 - Cal.dby y - Cal.cum y m := by have := c3.out; have := HD'.out; omega
     go_wp2_with (go_at_call 125; refine (length_any _ _ _ (by omega) (by omega)).mono ?_; rintro e w' ⟨rfl, rfl⟩)
     go_roundg ((M - (m + 1)).toNat)
     case measure => omega
     case rel => exact ⟨m + 1, by omega, by omega, Nat.le_refl _, by rw [c3.out]; go_num, rfl⟩
    ·obtain rfl : m = M := by omega
     have c5 : n / 1440 - Cal.dby y - Cal.cum y m < Cal.dim y m := by have := HD'.out; omega
     go_wp2_with (go_at_call 125; refine (length_any _ _ _ (by omega) (by omega)).mono ?_; rintro e w' ⟨rfl, rfl⟩)
     have hD2 : n / 1440 - Cal.dby y - Cal.cum y m + 1 = D := by have := HD'.out; omega
     rw [hD2]
     exact bodyPost_ret (v := .tuple #[.agg #[.int .i64 y, .int .i64 m, .int .i64 D], .int .i64 (n % 1440), .int .i64 0]) (by simp [results, Tryz.results121, go_sem]) rfl ⟨rfl, (below_new0 _ _).trans ((below_new0 _ _).mono (by simp))⟩
def DW (T : TypeId) (w : World) (a b c : Int) (wr : World) : Prop :=
 Below w.heap.size w wr ∧ Known wr w.heap.size T #[.int .i64 0, .int .i64 0, .int .i64 0] ∧ Known wr (w.heap.size + 1) T #[.int .i64 a, .int .i64 b, .int .i64 c]
theorem DW.cells {T : TypeId} {w wr : World} {a b c : Int} (h : DW T w a b c wr) :
  wr.cell? ⟨w.heap.size + 1, 0, none⟩ = some (.int .i64 a) ∧ wr.cell? ⟨w.heap.size + 1, 1, none⟩ = some (.int .i64 b) ∧ wr.cell? ⟨w.heap.size + 1, 2, none⟩ = some (.int .i64 c) ∧
  wr.frozen? ⟨w.heap.size + 1, 0, none⟩ = false ∧ wr.frozen? ⟨w.heap.size + 1, 1, none⟩ = false ∧ wr.frozen? ⟨w.heap.size + 1, 2, none⟩ = false :=
 ⟨by rw [h.2.2.cell]; rfl, by rw [h.2.2.cell]; rfl, by rw [h.2.2.cell]; rfl, h.2.2.free _, h.2.2.free _, h.2.2.free _⟩
theorem DW.on {T : TypeId} {w wr w2 : World} {a b c : Int} (h : DW T w a b c wr) (hb : Below wr.heap.size wr w2) : DW T w a b c w2 :=
 ⟨h.1.trans (hb.mono h.1.size), h.2.1.on hb, h.2.2.on hb⟩
theorem DW.start (T : TypeId) (w : World) : DW T w 2000 1 0 ((w.alloc (.cells #[.int .i64 0, .int .i64 0, .int .i64 0] T)).alloc (.cells #[.int .i64 2000, .int .i64 1, .int .i64 0] T)) := by
 refine ⟨(below_new0 _ _).trans ((below_new0 _ _).mono (by simp)), (Known.made _ _ _).alloc _, ?_⟩
 have := Known.made (w.alloc (.cells #[.int .i64 0, .int .i64 0, .int .i64 0] T)) T #[.int .i64 2000, .int .i64 1, .int .i64 0]
 simpa using this
theorem DW.year {T : TypeId} {w wr : World} {a b c : Int} (h : DW T w a b c wr) (y : Int) : DW T w y b c (wr.setCell ⟨w.heap.size + 1, 0, none⟩ (.int .i64 y)) :=
 ⟨h.1.setCell (by simp) _, h.2.1.far (by simp) _, h.2.2.put 0 _⟩
theorem DW.month {T : TypeId} {w wr : World} {a b c : Int} (h : DW T w a b c wr) (y : Int) : DW T w a y c (wr.setCell ⟨w.heap.size + 1, 1, none⟩ (.int .i64 y)) :=
 ⟨h.1.setCell (by simp) _, h.2.1.far (by simp) _, h.2.2.put 1 _⟩
theorem DW.day {T : TypeId} {w wr : World} {a b c : Int} (h : DW T w a b c wr) (y : Int) : DW T w a b y (wr.setCell ⟨w.heap.size + 1, 2, none⟩ (.int .i64 y)) :=
 ⟨h.1.setCell (by simp) _, h.2.1.far (by simp) _, h.2.2.put 2 _⟩
end Go.Proofs.YtcklofamaooegaaGreatDoor
