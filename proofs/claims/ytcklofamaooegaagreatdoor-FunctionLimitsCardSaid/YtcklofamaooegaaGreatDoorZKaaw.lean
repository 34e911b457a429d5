/-
  The claim's own texts, packed. Conditions: those typed in each theorem.
-/
import Derived.Test.YtcklofamaooegaaGreatDoorZKaae
import Derived.Test.YtcklofamaooegaaGreatDoorShelf
import Derived.Test.YtcklofamaooegaaGreatDoorZKaad
import Derived.Deep.LoopGhost
import Derived.Lib.AtoiErrMem
set_option maxHeartbeats 4000000
set_option maxRecDepth 10000
set_option linter.unusedVariables false
namespace Go.Proofs.YtcklofamaooegaaGreatDoor
open Go.RowKit
theorem fits_cases {c f : UInt8} (h : Cal.fits c f = true) : (65 ≤ f.toNat ∧ 48 ≤ c.toNat ∧ c.toNat ≤ 57) ∨ (f.toNat < 65 ∧ c.toNat = f.toNat) := by
 unfold Cal.fits at h
 split at h
 ·left; simp only [decide_eq_true_eq] at h; omega
 ·right; simp only [decide_eq_true_eq] at h; omega
theorem fits_not {c f : UInt8} (h : Cal.fits c f = false) : (65 ≤ f.toNat ∧ c.toNat < 48) ∨ (65 ≤ f.toNat ∧ 57 < c.toNat) ∨ (f.toNat < 65 ∧ ¬ c.toNat = f.toNat) := by
 unfold Cal.fits at h
 split at h
 ·simp only [decide_eq_false_iff_not] at h; omega
 ·simp only [decide_eq_false_iff_not] at h; omega
theorem shaped_yes (s f : ByteArray) (w : World) (hs : s.size ≤ 1000) (h : Cal.Shp s f) :
  Calls Tryz.prog 64 #[.string s, .string f] w fun e w' => e = .returned (.bool true) ∧ Below w.heap.size w w' := by
 obtain ⟨h1, h2⟩ := h
 have h0 : ((s.size : Int) == (f.size : Int)) = true := by simp [h1]
 have h0' : (s.size == f.size) = true := by simp [h1]
 have H := Lib.hid h1
 clear h1
 go_enter Tryz.func64, Tryz.ntmps64
 go_wp2_with fail
 go_loopg [5, 13] (s.size + 1) (fun g s5 s13 wr => ∃ k : Nat, k ≤ s.size ∧ s.size - k < g ∧ s13 = .int .i64 k ∧ Below w.heap.size w wr)
 case atStart => exact ⟨0, by omega, by omega, rfl, Below.refl _ _⟩
 case round =>
  obtain ⟨k, hk, hg, rfl, hb⟩ := hrel
  by_cases hlt : k < s.size
  ·have hlf : k < f.size := by have := H.out; omega
   have h3 := h2 k hlt hlf
   clear h2 h0 h0'
   rcases fits_cases h3 with ⟨a, b, c⟩ | ⟨a, b⟩
   ·have g1 : decide (65 ≤ (f[k].toNat : Int)) = true := by rw [decide_eq_true_eq]; omega
    have g2 : decide ((s[k].toNat : Int) < 48) = false := by rw [decide_eq_false_iff_not]; omega
    have g3 : decide (57 < (s[k].toNat : Int)) = false := by rw [decide_eq_false_iff_not]; omega
    have g4 : decide ((f[k].toNat : Int) < 65) = false := by rw [decide_eq_false_iff_not]; omega
    clear h3
    go_wp2_with fail
    go_region
    all_goals (try go_wp2_with fail)
    go_roundg (s.size - (k + 1) + 1)
    case measure => omega
    case rel => exact ⟨k + 1, by omega, by omega, rfl, hb.drew⟩
   ·have g1 : decide (65 ≤ (f[k].toNat : Int)) = false := by rw [decide_eq_false_iff_not]; omega
    have g4 : decide ((f[k].toNat : Int) < 65) = true := by rw [decide_eq_true_eq]; omega
    have g5 : ((s[k].toNat : Int) == (f[k].toNat : Int)) = true := by simp; omega
    have g6 : (s[k].toNat == f[k].toNat) = true := by simp; omega
    clear h3
    go_wp2_with fail
    go_region
    all_goals (try go_wp2_with fail)
    go_roundg (s.size - (k + 1) + 1)
    case measure => omega
    case rel => exact ⟨k + 1, by omega, by omega, rfl, hb.drew⟩
  ·clear h2 h0 h0'
   go_wp2_with fail
   go_ret
   exact ⟨rfl, hb⟩
theorem shaped_bad (s f : ByteArray) (w : World) (j : Nat) (hs : s.size ≤ 1000) (h1 : s.size = f.size) (h2 : ∀ (k1 : j < s.size) (k2 : j < f.size), Cal.fits s[j] f[j] = false) (hj : j < s.size) :
  Calls Tryz.prog 64 #[.string s, .string f] w fun e w' => e = .returned (.bool false) ∧ Below w.heap.size w w' := by
 have h0 : ((s.size : Int) == (f.size : Int)) = true := by simp [h1]
 have h0' : (s.size == f.size) = true := by simp [h1]
 have H := Lib.hid h1
 clear h1
 go_enter Tryz.func64, Tryz.ntmps64
 go_wp2_with fail
 go_loopg [5, 13] (s.size + 1) (fun g s5 s13 wr => ∃ k : Nat, k ≤ j ∧ s.size - k < g ∧ s13 = .int .i64 k ∧ Below w.heap.size w wr)
 case atStart => exact ⟨0, by omega, by omega, rfl, Below.refl _ _⟩
 case round =>
  obtain ⟨k, hk, hg, rfl, hb⟩ := hrel
  have hlt : k < s.size := by omega
  have hlf : k < f.size := by have := H.out; omega
  clear h0 h0'
  cases h3 : Cal.fits s[k] f[k] with
  | true =>
    have hkj : k < j := by
     by_cases e : k = j
     ·subst e; rw [h2 hlt hlf] at h3; cases h3
     ·omega
    clear h2
    rcases fits_cases h3 with ⟨a, b, c⟩ | ⟨a, b⟩
    ·have g1 : decide (65 ≤ (f[k].toNat : Int)) = true := by rw [decide_eq_true_eq]; omega
     have g2 : decide ((s[k].toNat : Int) < 48) = false := by rw [decide_eq_false_iff_not]; omega
     have g3 : decide (57 < (s[k].toNat : Int)) = false := by rw [decide_eq_false_iff_not]; omega
     have g4 : decide ((f[k].toNat : Int) < 65) = false := by rw [decide_eq_false_iff_not]; omega
     clear h3
     go_wp2_with fail
     go_region
     all_goals (try go_wp2_with fail)
     go_roundg (s.size - (k + 1) + 1)
     case measure => omega
     case rel => exact ⟨k + 1, by omega, by omega, rfl, hb.drew⟩
    ·have g1 : decide (65 ≤ (f[k].toNat : Int)) = false := by rw [decide_eq_false_iff_not]; omega
     have g4 : decide ((f[k].toNat : Int) < 65) = true := by rw [decide_eq_true_eq]; omega
     have g5 : ((s[k].toNat : Int) == (f[k].toNat : Int)) = true := by simp; omega
     have g6 : (s[k].toNat == f[k].toNat) = true := by simp; omega
     clear h3
     go_wp2_with fail
     go_region
     all_goals (try go_wp2_with fail)
     go_roundg (s.size - (k + 1) + 1)
     case measure => omega
     case rel => exact ⟨k + 1, by omega, by omega, rfl, hb.drew⟩
  | false =>
    clear h2
    rcases fits_not h3 with ⟨a, b⟩ | ⟨a, b⟩ | ⟨a, b⟩
    ·have g1 : decide (65 ≤ (f[k].toNat : Int)) = true := by rw [decide_eq_true_eq]; omega
     have g2 : decide ((s[k].toNat : Int) < 48) = true := by rw [decide_eq_true_eq]; omega
     clear h3
     go_wp2_with fail
     go_region
     all_goals (try go_wp2_with fail)
     go_ret
     exact ⟨rfl, hb.drew⟩
    ·have g1 : decide (65 ≤ (f[k].toNat : Int)) = true := by rw [decide_eq_true_eq]; omega
     have g2 : decide ((s[k].toNat : Int) < 48) = false := by rw [decide_eq_false_iff_not]; omega
     have g3 : decide (57 < (s[k].toNat : Int)) = true := by rw [decide_eq_true_eq]; omega
     clear h3
     go_wp2_with fail
     go_region
     all_goals (try go_wp2_with fail)
     go_ret
     exact ⟨rfl, hb.drew⟩
    ·have g1 : decide (65 ≤ (f[k].toNat : Int)) = false := by rw [decide_eq_false_iff_not]; omega
     have g4 : decide ((f[k].toNat : Int) < 65) = true := by rw [decide_eq_true_eq]; omega
     have g5 : ((s[k].toNat : Int) == (f[k].toNat : Int)) = false := by simp; omega
     have g6 : (s[k].toNat == f[k].toNat) = false := by simp; omega
     clear h3
     go_wp2_with fail
     go_region
     all_goals (try go_wp2_with fail)
     go_ret
     exact ⟨rfl, hb.drew⟩
theorem shaped_len (s f : ByteArray) (w : World) (h : s.size ≠ f.size) :
  Calls Tryz.prog 64 #[.string s, .string f] w fun e w' => e = .returned (.bool false) ∧ Below w.heap.size w w' := by
 have h0 : ((s.size : Int) == (f.size : Int)) = false := by simp; omega
 have h0' : (s.size == f.size) = false := by simpa using h
 clear h
 go_enter Tryz.func64, Tryz.ntmps64
 go_wp2_with fail
 go_ret
 exact ⟨rfl, Below.refl _ _⟩
theorem shaped_no (s f : ByteArray) (w : World) (hs : s.size ≤ 1000) (h : ¬ Cal.Shp s f) :
  Calls Tryz.prog 64 #[.string s, .string f] w fun e w' => e = .returned (.bool false) ∧ Below w.heap.size w w' := by
 by_cases h1 : s.size = f.size
 ·have h2 : ∃ j, ∃ h : j < s.size, ∃ k : j < f.size, Cal.fits s[j] f[j] = false := by
   refine Classical.byContradiction fun hn => h ⟨h1, fun k k1 k2 => ?_⟩
   cases hc : Cal.fits s[k] f[k] with
   | true => rfl
   | false => exact absurd ⟨k, k1, k2, hc⟩ hn
  obtain ⟨j, j1, j2, hb⟩ := h2
  exact shaped_bad s f w j hs h1 (fun _ _ => hb) j1
 ·exact shaped_len s f w h1
end Go.Proofs.YtcklofamaooegaaGreatDoor
