/-
  The texts that are built from a tape. Conditions: those typed in each theorem.
-/
import Derived.Test.YtlkfnpmcihfjmaaDoorBll
import Derived.Test.YtlkfnpmcihfjmaaDoorBlj

namespace Go.Proofs.YtlkfnpmcihfjmaaDoor
open Go.RowKit
set_option linter.unusedVariables false

def atomsB : List ByteArray := [⟨#[49]⟩, ⟨#[50]⟩, ⟨#[48]⟩, ⟨#[51, 46, 53]⟩, ⟨#[49, 48]⟩, ⟨#[48, 46, 50, 53]⟩, ⟨#[55]⟩, ⟨#[49, 48, 48, 48, 48, 48]⟩, ⟨#[57, 57, 57, 57, 57, 57, 57, 57, 57]⟩, ⟨#[49, 46, 48, 48, 48, 48, 48, 48, 48, 48, 49]⟩]
def unisB : List ByteArray := [⟨#[45]⟩, ⟨#[43]⟩, ⟨#[110, 111, 116, 32]⟩, ⟨#[102, 108, 111, 111, 114, 32]⟩]
def binsB : List ByteArray := [⟨#[43]⟩, ⟨#[45]⟩, ⟨#[42]⟩, ⟨#[47]⟩, ⟨#[32, 109, 111, 100, 32]⟩, ⟨#[94]⟩, ⟨#[32, 61, 32]⟩, ⟨#[60, 62]⟩, ⟨#[60]⟩, ⟨#[62, 32]⟩, ⟨#[60, 61]⟩, ⟨#[62, 61]⟩, ⟨#[32, 97, 110, 100, 32]⟩, ⟨#[32, 111, 114, 32]⟩, ⟨#[32, 114, 111, 117, 110, 100, 32]⟩]
/-- the texts that are built so deep -/
inductive Bt : Nat → ByteArray → Prop where
  | atom {n : Nat} {a : ByteArray} (h : a ∈ atomsB) : Bt n a
  | par {n : Nat} {s : ByteArray} (h : Bt n s) : Bt (n + 1) (⟨#[40]⟩ ++ s ++ ⟨#[41]⟩)
  | un {n : Nat} {o s : ByteArray} (ho : o ∈ unisB) (h : Bt n s) : Bt (n + 1) (o ++ s)
  | bin {n : Nat} {s o t : ByteArray} (h : Bt n s) (ho : o ∈ binsB) (k : Bt n t) : Bt (n + 1) (s ++ o ++ t)
def btMax : Nat → Nat
  | 0 => 11
  | n + 1 => 2 * btMax n + 7
theorem btMax_11 : ∀ n, 11 ≤ btMax n
  | 0 => Nat.le_refl _
  | n + 1 => by have := btMax_11 n; simp only [btMax]; omega
theorem size_in {l : List ByteArray} {m : Nat} (h : (l.all fun t => decide (t.size ≤ m)) = true) {t : ByteArray} (ht : t ∈ l) : t.size ≤ m := by simpa using List.all_eq_true.1 h t ht
theorem Bt.size {n : Nat} {s : ByteArray} (h : Bt n s) : s.size ≤ btMax n := by
  induction h with
  | atom h => exact Nat.le_trans (size_in (by decide) h) (btMax_11 _)
  | par h ih => simp only [ByteArray.size_append, btMax]; have : (⟨#[40]⟩ : ByteArray).size = 1 := rfl; have : (⟨#[41]⟩ : ByteArray).size = 1 := rfl; omega
  | un ho h ih => have := size_in (m := 7) (by decide) ho; simp only [ByteArray.size_append, btMax]; omega
  | bin h ho k ih1 ih2 => have := size_in (m := 7) (by decide) ho; simp only [ByteArray.size_append, btMax]; omega
theorem Bt.mono {n : Nat} {s : ByteArray} (h : Bt n s) : Bt (n + 1) s := by
  induction h with
  | atom h => exact .atom h
  | par h ih => exact .par ih
  | un ho h ih => exact .un ho ih
  | bin h ho k ih1 ih2 => exact .bin ih1 ho ih2

/-- what the building so deep does -/
def BlR (n : Nat) : Prop := ∀ (g : Nat) (w : World), TP g w → Calls Tryd.prog 19 #[.pointer (some ⟨g, 0, none⟩), .int .i64 n] w fun e w' => ∃ s, e = .returned (.string s) ∧ Bt n s ∧ Step g w w' ∧ TP g w'
theorem tapeOfAt (g z : Nat) (l : List ByteArray) (w : World) (t : TypeId) (hz : w.heap.size = z) (h0 : 0 < l.length) (h1 : l.length ≤ 1000) (h : TP g w) :
    Calls Tryd.prog 31 #[.pointer (some ⟨g, 0, none⟩), .slice (some ⟨z, 0, none⟩) l.length l.length] (w.alloc (.cells (l.map Value.string).toArray t)) fun e w' => ∃ t, e = .returned (.string t) ∧ t ∈ l ∧ Step g w w' ∧ TP g w' := by
  subst hz
  have hg := h.lt
  refine (tapeOf g w.heap.size l _ h0 h1 (Strs.made w t l) (by simp) (by omega) (h.below (below_new0 _ _))).mono ?_
  rintro e w' ⟨s, rfl, hs, st, tp⟩
  exact ⟨s, rfl, hs, (Step.of_below (below_new0 w _) (by omega)).trans st, tp⟩

set_option maxRecDepth 20000 in
set_option maxHeartbeats 2000000 in
theorem built_0 : BlR 0 := by
  intro g w h
  show Calls Tryd.prog 19 #[.pointer (some ⟨g, 0, none⟩), .int .i64 0] w _
  have hC := tapeOfAt g w.heap.size atomsB w 9 rfl (by decide) (by decide) h
  clear h
  go_enter Tryd.func19, Tryd.ntmps19
  go_wp2_with fail
  refine hC.mono ?_
  rintro e w1 ⟨s, rfl, hs, st, tp⟩
  go_wp2_with fail
  go_ret
  exact ⟨s, rfl, .atom hs, st, tp⟩
set_option maxRecDepth 20000 in
set_option maxHeartbeats 2000000 in
theorem built_step (n : Nat) (hn : n ≤ 4) (hB : BlR n) : BlR (n + 1) := by
  intro g w h
  have hbm : btMax n ≤ 300 := by
    rcases (show n = 0 ∨ n = 1 ∨ n = 2 ∨ n = 3 ∨ n = 4 by omega) with rfl | rfl | rfl | rfl | rfl <;> decide
  have hN := tapeNext g 5 w (by omega) (by omega) h
  have gn : decide ((n : Int) + 1 ≤ 0) = false := by rw [decide_eq_false_iff_not]; omega
  have hn2 : (n : Int) + 1 - 1 = n := by omega
  rw [show ((n + 1 : Nat) : Int) = (n : Int) + 1 by omega]
  unfold BlR at hB
  clear h
  go_enter Tryd.func19, Tryd.ntmps19
  go_wp2_with fail
  refine hN.mono ?_
  rintro e w1 ⟨r, rfl, hr, st1, tp1⟩
  clear hN
  by_cases h0 : r = 0
  · subst h0
    have hC := tapeOfAt g w1.heap.size atomsB w1 9 rfl (by decide) (by decide) tp1
    clear tp1
    go_wp2_with fail
    refine hC.mono ?_
    rintro e w2 ⟨s, rfl, hs, st2, tp2⟩
    clear hC hB
    go_wp2_with fail
    go_ret
    exact ⟨s, rfl, .atom hs, st1.trans st2, tp2⟩
  · have g0 : ((r : Int) == 0) = false := by simp; omega
    have hN := tapeNext g 8 w1 (by omega) (by omega) tp1
    clear tp1
    go_wp2_with fail
    refine hN.mono ?_
    rintro e w2 ⟨q, rfl, hq, st2, tp2⟩
    clear hN
    by_cases h1 : q = 0
    · subst h1
      have hC := hB g w2 tp2
      clear tp2 hB
      go_wp2_with fail
      refine hC.mono ?_
      rintro e w3 ⟨s, rfl, hs, st3, tp3⟩
      have hz := hs.size
      have hz2 : s.size ≤ 300 := by omega
      clear hC hz
      go_wp2_with fail
      go_ret
      exact ⟨_, rfl, .par hs, (st1.trans st2).trans st3, tp3⟩
    · have g1 : ((q : Int) == 0) = false := by simp; omega
      by_cases h2 : q = 1
      · subst h2
        have hC := tapeOfAt g w2.heap.size unisB w2 9 rfl (by decide) (by decide) tp2
        clear tp2
        go_wp2_with fail
        refine hC.mono ?_
        rintro e w3 ⟨o, rfl, ho, st3, tp3⟩
        have hzo := size_in (m := 7) (by decide) ho
        have hC2 := hB g w3 tp3
        clear tp3 hB hC
        go_wp2_with fail
        refine hC2.mono ?_
        rintro e w4 ⟨s, rfl, hs, st4, tp4⟩
        have hz := hs.size
        have hz2 : s.size ≤ 300 := by omega
        clear hC2 hz
        go_wp2_with fail
        go_ret
        exact ⟨_, rfl, .un ho hs, ((st1.trans st2).trans st3).trans st4, tp4⟩
      · have g2 : ((q : Int) == 1) = false := by simp; omega
        have hC := hB g w2 tp2
        clear tp2
        go_wp2_with fail
        refine hC.mono ?_
        rintro e w3 ⟨s, rfl, hs, st3, tp3⟩
        have hz := hs.size
        have hz2 : s.size ≤ 300 := by omega
        have hC2 := tapeOfAt g w3.heap.size binsB w3 9 rfl (by decide) (by decide) tp3
        clear tp3 hC hz
        go_wp2_with fail
        refine hC2.mono ?_
        rintro e w4 ⟨o, rfl, ho, st4, tp4⟩
        have hzo := size_in (m := 7) (by decide) ho
        have hC3 := hB g w4 tp4
        clear tp4 hB hC2
        go_wp2_with fail
        refine hC3.mono ?_
        rintro e w5 ⟨t, rfl, ht, st5, tp5⟩
        have hy := ht.size
        have hy2 : t.size ≤ 300 := by omega
        clear hC3 hy
        go_wp2_with fail
        go_ret
        exact ⟨_, rfl, .bin hs ho ht, (((st1.trans st2).trans st3).trans st4).trans st5, tp5⟩
theorem built_any : BlR 3 ∧ BlR 4 := by
  have b1 := built_step 0 (by omega) built_0
  have b2 := built_step 1 (by omega) b1
  have b3 := built_step 2 (by omega) b2
  exact ⟨b3, built_step 3 (by omega) b3⟩
/-- the tape that is laid over a list of integers -/
theorem TP.made {w : World} {a : Option Addr} {len cap : Nat} {zs : List Int} (h : IsInts w a len cap zs) : TP w.heap.size (w.alloc (.cells #[.slice a len cap, .int .i64 0] 60)) := by
  have hb : ∀ x, a = some x → 0 < cap → x.block < w.heap.size := by
    intro x hx hl
    rcases h with ⟨_, _, h, _⟩ | ⟨y, hy, _, _, h7, h8, _⟩
    · omega
    · rw [hx] at hy
      obtain rfl := Option.some.inj hy
      have := World.block_lt_of_cell? w _ (h8 0 (by omega))
      rwa [add_block] at this
  exact ⟨a, len, cap, 0, zs, Known.made w _ _, h.keep (fun x i hx hp => (below_new0 w _).cell (p := x.add i) (by rw [add_block]; exact hb x hx hp)), by omega, hb⟩
end Go.Proofs.YtlkfnpmcihfjmaaDoor
