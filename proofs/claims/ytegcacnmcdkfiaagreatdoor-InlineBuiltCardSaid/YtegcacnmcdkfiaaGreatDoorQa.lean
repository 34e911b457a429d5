/-
  The law InlineBuilt: texts that are made of pieces of markup. Condition: the library's MaxLen holds a number.
-/
import Derived.Test.YtegcacnmcdkfiaaGreatDoorVb
import Derived.Test.YtegcacnmcdkfiaaGreatDoorZd

namespace Go.Proofs.YtegcacnmcdkfiaaGreatDoor
open Go.RowKit Doc Tit Inl
set_option linter.unusedVariables false
attribute [local go_sem ↓] Go.wp_at_zero Go.wp_at_succ

def lineB : List ByteArray := [⟨#[]⟩, ⟨#[]⟩, ⟨#[]⟩, ⟨#[42, 32]⟩, ⟨#[42, 42, 32]⟩, ⟨#[35, 32]⟩, ⟨#[42, 35, 32]⟩, ⟨#[32]⟩, ⟨#[123, 124]⟩, ⟨#[124]⟩, ⟨#[124, 45]⟩, ⟨#[33]⟩, ⟨#[124, 125]⟩, ⟨#[45, 45, 45, 45]⟩]
set_option maxRecDepth 20000 in
set_option maxHeartbeats 2000000 in
/-- a line off the tape -/
theorem line_4 (g : Nat) (V W : World) (h : TS g V W) : Calls Tryz.prog 19 #[.pointer (some ⟨g, 0, none⟩), .int .i64 4] W fun e w' => ∃ t : ByteArray, e = .returned (.string t) ∧ t.size ≤ 200000 ∧ TS g V w' := by
  have hO := tOfNew g lineB V W 9 _ rfl (by decide) (by decide) (by decide) h
  go_enter Tryz.func19, Tryz.ntmps19
  go_wp2_with fail
  refine hO.mono ?_
  rintro e w1 ⟨t, rfl, ht, ts, st⟩
  clear hO st h
  go_wp2_with fail
  go_loopg [5, 6] 4 (fun g' s5 s6 wr => ∃ (t : ByteArray) (i : Nat), s5 = .string t ∧ s6 = .int .i64 i ∧ i < 4 ∧ 4 ≤ i + g' ∧ t.size ≤ 99 + i * 50000 ∧ TS g V wr)
  case atStart => exact ⟨t, 0, rfl, rfl, by decide, by decide, by omega, ts⟩
  case round =>
    obtain ⟨t, i, rfl, rfl, hi, hig, ht, ts⟩ := hrel
    cases gk with
    | zero => omega
    | succ gk =>
      have hN := tNext g 3 V wr (by decide) (by decide) ts
      clear ts
      go_wp2_with fail
      refine hN.mono ?_
      rintro e w2 ⟨r, rfl, hr, ts, st⟩
      clear st hN
      by_cases hir : i ≤ r
      · have g1 : decide ((i : Int) ≤ (r : Int)) = true := decide_eq_true (by omega)
        have g1' : decide (i ≤ r) = true := decide_eq_true hir
        have hP := pie_4 g V w2 ts
        clear ts
        go_wp2_with fail
        refine hP.mono ?_
        rintro e w3 ⟨u, rfl, hu, ts⟩
        clear hP
        go_wp2_with fail
        go_roundg gk
        case measure => omega
        case rel => exact ⟨t ++ u, i + 1, rfl, by go_num, by omega, by omega, by rw [ByteArray.size_append]; omega, ts⟩
      · have g1 : decide ((i : Int) ≤ (r : Int)) = false := decide_eq_false (by omega)
        have g1' : decide (i ≤ r) = false := decide_eq_false hir
        go_wp2_with fail
        go_ret
        exact ⟨t, rfl, by omega, ts⟩
set_option maxRecDepth 10000 in
set_option maxHeartbeats 2000000 in
theorem law_built17 (a : Option Addr) (len cap : Nat) (zs : List Int) (w : World) (hz : IsInts w a len cap zs) (hm : MX w) : Calls Tryz.prog 4 #[.slice a len cap] w fun e w' => e = .returned (.bool true) ∧ Below w.heap.size w w' := by
  have HK := Lib.hid (known_then w hm)
  have HM := Lib.hid hm
  have hT := newT a len cap zs w hz
  clear hm hz
  go_enter Tryz.func4, Tryz.ntmps4
  go_wp2_with fail
  refine hT.mono ?_
  rintro e w1 ⟨g, rfl, hg, hb1, tp⟩
  have hL := line_4 g w1 w1 (TS.refl tp)
  clear hT tp
  go_wp2_with fail
  refine hL.mono ?_
  rintro e w2 ⟨s, rfl, hs, ts⟩
  have HB2 := Lib.hid (hb1.trans (ts.st.below.mono hg))
  clear hL hb1 ts
  by_cases hsz : s.size ≤ 1000
  · have g0 : decide ((1000 : Int) < (s.size : Int)) = false := decide_eq_false (by omega)
    have hP := fun W hb => parse_to s (read s.data.toList) _ (by omega) rfl rfl W (HM.out.below hb : MX W)
    have hQ := fun W => rparse17_any s W (by omega)
    have hS := same_of (read s.data.toList) (by have := read_size s.data.toList; have hz : s.data.toList.length = s.size := by simp
                                                omega)
    obtain ⟨R, hRd⟩ : ∃ R, read s.data.toList = R := ⟨_, rfl⟩
    simp only [hRd] at hP hQ hS
    have HP := Lib.hid hP
    have HQ := Lib.hid hQ
    have HS := Lib.hid hS
    clear hP hQ hS hRd
    go_wp2_with fail
    refine (HP.out _ HB2.out).mono ?_
    rintro e w3 ⟨p3, c3, rfl, hs3, hb3⟩
    have HB3 := Lib.hid (below_then HB2.out hb3)
    have HS3 := Lib.hid hs3
    clear hs3 hb3
    go_wp2_with fail
    refine (HQ.out _).mono ?_
    rintro e w4 ⟨p4, c4, rfl, hs4, hb4⟩
    have HB4 := Lib.hid (below_then HB3.out hb4)
    have HC := Lib.hid (HS.out p3 c3 p4 c4 w4 (sl_below HS3.out hb4) (sl_any hs4))
    clear hs4 hb4
    go_wp2_with fail
    refine HC.out.mono ?_
    rintro e w5 ⟨rfl, hb5⟩
    have HB5 := Lib.hid (below_then HB4.out hb5)
    clear hb5
    go_wp2_with fail
    refine (HK.out _ HB5.out).mono ?_
    rintro e w6 ⟨rfl, hb6⟩
    go_wp2_with fail
    go_ret
    exact ⟨rfl, hb6⟩
  · have g0 : decide ((1000 : Int) < (s.size : Int)) = true := decide_eq_true (by omega)
    go_wp2_with fail
    refine (HK.out _ HB2.out).mono ?_
    rintro e w6 ⟨rfl, hb6⟩
    go_wp2_with fail
    go_ret
    exact ⟨rfl, hb6⟩
end Go.Proofs.YtegcacnmcdkfiaaGreatDoor
