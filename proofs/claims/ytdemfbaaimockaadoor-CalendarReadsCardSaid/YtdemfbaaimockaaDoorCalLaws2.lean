/-
  The laws CalendarFormat and CalendarUnit, walked: each answers true, and writes nothing that was there. Condition: the library's table of powers of ten as it is laid.
-/
import Derived.Test.YtdemfbaaimockaaDoorCalFormatRef
import Derived.Test.YtdemfbaaimockaaDoorCalLaws1
namespace Go.Proofs.YtdemfbaaimockaaDoor
open Go.RowKit

/-- the text of a pattern at an instant, and the error -/
def fmtT (s : ByteArray) (n : Int) : List UInt8 := if instB n = true ∧ s.size ≤ 400 then Cal.fmt n (Cal.evs s.data.toList) else []
def fmtE (s : ByteArray) (n : Int) : Int := if instB n = true then (if s.size ≤ 400 then 0 else 3) else 2
theorem format_any (s : ByteArray) (n : Int) (w : World) (hs : s.size ≤ 1000000) (ht : Tab w) :
    Calls Tryd.prog 20 #[.string s, .int .i64 n] w fun e w' => e = .returned (.tuple #[.string ⟨(fmtT s n).toArray⟩, .int .i64 (fmtE s n)]) ∧ Below w.heap.size w w' := by
  cases h : instB n
  · simp only [fmtT, fmtE, h, Bool.false_eq_true, false_and, if_false]
    exact format_no s n w h
  · by_cases hl : s.size ≤ 400
    · simp only [fmtT, fmtE, h, hl, and_self, if_true]
      exact format_yes s n w hl h ht
    · simp only [fmtT, fmtE, h, hl, and_false, if_true, if_false]
      exact format_long s n w hs (by omega) h
theorem format_ref (s : ByteArray) (n : Int) (w : World) (hs : s.size ≤ 1000000) :
    Calls Tryd.prog 21 #[.string s, .int .i64 n] w fun e w' => e = .returned (.tuple #[.string ⟨(fmtT s n).toArray⟩, .int .i64 (fmtE s n)]) ∧ Below w.heap.size w w' := by
  cases h : instB n
  · simp only [fmtT, fmtE, h, Bool.false_eq_true, false_and, if_false]
    exact formatRef_no s n w h
  · by_cases hl : s.size ≤ 400
    · simp only [fmtT, fmtE, h, hl, and_self, if_true]
      exact formatRef_yes s n w hl h
    · simp only [fmtT, fmtE, h, hl, and_false, if_true, if_false]
      exact formatRef_long s n w hs (by omega) h

set_option maxHeartbeats 1000000 in
theorem law_format (s : ByteArray) (n : Int) (w : World) (ht : Tab w) (hs : s.size ≤ maxLen) :
    Calls Tryd.prog 5 #[.string s, .int .i64 n] w fun e w' => e = .returned (.bool true) ∧ Below w.heap.size w w' := by
  unfold maxLen at hs
  by_cases hl : 500 < s.size
  · go_enter Tryd.func5, Tryd.ntmps5
    go_wp2_with fail
    refine (known_any _ ht).mono ?_
    rintro e w3 ⟨rfl, hb3⟩
    go_wp2_with fail
    go_ret
    exact ⟨rfl, hb3⟩
  · go_enter Tryd.func5, Tryd.ntmps5
    go_wp2_with fail
    refine (format_any s n _ (by omega) ht).mono ?_
    rintro e w1 ⟨rfl, hb1⟩
    go_wp2_with fail
    refine (format_ref s n _ (by omega)).mono ?_
    rintro e w2 ⟨rfl, hb2⟩
    have hb := hb1.then_ hb2
    go_wp2_with fail
    refine (unit_any s _ (by omega)).mono ?_
    rintro e w3 ⟨rfl, hb3⟩
    go_wp2_with fail
    refine (unitRef_any s _ (by omega)).mono ?_
    rintro e w4 ⟨rfl, hb4⟩
    have hb' := (hb.then_ hb3).then_ hb4
    go_wp2_with fail
    refine (known_any _ (ht.on hb')).mono ?_
    rintro e w5 ⟨rfl, hb5⟩
    go_wp2_with fail
    go_ret
    exact ⟨rfl, hb'.then_ hb5⟩

/-- A pattern's text hangs on the beginning of its unit alone. -/
theorem stV_inst {u n : Int} (h1 : 1 ≤ u) (h2 : u ≤ 5) (hn : instB n = true) : instB (stV u n) = true := by
  obtain ⟨k1, k2⟩ := instB_iff.1 hn
  obtain ⟨a1, a2, a3, a4, a5, a6, a7⟩ := Cal.dateOf_spec (n / 1440) (by omega) (by omega)
  have c1 := Cal.cum_bd (Cal.yOf (n / 1440)) (Cal.mOf (n / 1440)) a3 a4
  have d1 := Cal.dby_bd (Cal.yOf (n / 1440)) a1 (by omega)
  refine instB_iff.2 ?_
  rcases (show u = 1 ∨ u = 2 ∨ u = 3 ∨ u = 4 ∨ u = 5 by omega) with rfl | rfl | rfl | rfl | rfl <;> simp [stV] <;> omega
theorem stV_same (u n : Int) (h1 : 1 ≤ u) (h2 : u ≤ 5) (hn : instB n = true) :
    Cal.yOf (stV u n / 1440) = Cal.yOf (n / 1440) ∧ (u ≤ 4 → Cal.mOf (stV u n / 1440) = Cal.mOf (n / 1440)) ∧ (u ≤ 3 → stV u n / 1440 = n / 1440) ∧ (u ≤ 2 → stV u n % 1440 / 60 = n % 1440 / 60) ∧ (u ≤ 1 → stV u n = n) := by
  obtain ⟨k1, k2⟩ := instB_iff.1 hn
  obtain ⟨a1, a2, a3, a4, a5, a6, a7⟩ := Cal.dateOf_spec (n / 1440) (by omega) (by omega)
  have c1 := Cal.cum_bd (Cal.yOf (n / 1440)) (Cal.mOf (n / 1440)) a3 a4
  have d1 := Cal.dby_bd (Cal.yOf (n / 1440)) a1 (by omega)
  have d2 := Cal.dim_bd (Cal.yOf (n / 1440)) (Cal.mOf (n / 1440))
  have d3 := Cal.dim_bd (Cal.yOf (n / 1440)) 1
  have f1 := Cal.dateOf_unique (n := Cal.dby (Cal.yOf (n / 1440)) + Cal.cum (Cal.yOf (n / 1440)) (Cal.mOf (n / 1440))) (y := Cal.yOf (n / 1440)) (m := Cal.mOf (n / 1440)) (d := 1) a3 a4 (by omega) (by omega) (by omega)
  have f2 := Cal.dateOf_unique (n := Cal.dby (Cal.yOf (n / 1440))) (y := Cal.yOf (n / 1440)) (m := 1) (d := 1) (by omega) (by omega) (by omega) (by omega) (by rw [Cal.cum_one]; omega)
  rcases (show u = 1 ∨ u = 2 ∨ u = 3 ∨ u = 4 ∨ u = 5 by omega) with rfl | rfl | rfl | rfl | rfl
  · have e : stV 1 n = n := by simp [stV]
    rw [e]; exact ⟨rfl, fun _ => rfl, fun _ => rfl, fun _ => rfl, fun _ => rfl⟩
  · have e : stV 2 n = n - n % 60 := by simp [stV]
    have e1 : (n - n % 60) / 1440 = n / 1440 := by omega
    rw [e, e1]; exact ⟨rfl, fun _ => rfl, fun _ => rfl, fun _ => by omega, fun h => absurd h (by omega)⟩
  · have e : stV 3 n = n - n % 1440 := by simp [stV]
    have e1 : (n - n % 1440) / 1440 = n / 1440 := by omega
    rw [e, e1]; exact ⟨rfl, fun _ => rfl, fun _ => rfl, fun h => absurd h (by omega), fun h => absurd h (by omega)⟩
  · have e : stV 4 n / 1440 = Cal.dby (Cal.yOf (n / 1440)) + Cal.cum (Cal.yOf (n / 1440)) (Cal.mOf (n / 1440)) := by simp [stV]
    rw [e]; exact ⟨f1.1.symm, fun _ => f1.2.1.symm, fun h => absurd h (by omega), fun h => absurd h (by omega), fun h => absurd h (by omega)⟩
  · have e : stV 5 n / 1440 = Cal.dby (Cal.yOf (n / 1440)) := by simp [stV]
    rw [e]; exact ⟨f2.1.symm, fun h => absurd h (by omega), fun h => absurd h (by omega), fun h => absurd h (by omega), fun h => absurd h (by omega)⟩
theorem val_same (c : UInt8) (u n : Int) (h1 : 1 ≤ u) (h2 : u ≤ 5) (hn : instB n = true) (hu : u ≤ Cal.unitOf c) (hc : Cal.isCode c = true) : Cal.val c (stV u n) = Cal.val c n := by
  obtain ⟨s1, s2, s3, s4, s5⟩ := stV_same u n h1 h2 hn
  rcases Cal.isCode_cases hc with rfl | rfl | rfl | rfl | rfl | rfl | rfl | rfl | rfl | rfl | rfl | rfl | rfl | rfl <;> simp [Cal.unitOf] at hu
  · simp [Cal.val, s1]
  · simp [Cal.val, s2 hu]
  · simp [Cal.val, s2 hu]
  · simp [Cal.val, s2 hu]
  · simp [Cal.val, s2 hu]
  · simp [Cal.val, s3 hu]
  · simp [Cal.val, s3 hu]
  · simp [Cal.val, s3 hu]
  · simp [Cal.val, Cal.wd, s3 hu]
  · simp [Cal.val, Cal.wd, s3 hu]
  · simp [Cal.val, Cal.wd, s3 hu]
  · simp [Cal.val, s4 hu]
  · simp [Cal.val, s4 hu]
  · rw [s5 hu]
theorem unit_low (l : List (UInt8 × Bool)) : ∀ e ∈ l, e.2 = true → Cal.unit l ≤ Cal.unitOf e.1 := by
  have mono : ∀ (l : List (UInt8 × Bool)) (u : Int), l.foldl Cal.unitStep u ≤ u := by
    intro l
    induction l with
    | nil => intro u; exact Int.le_refl _
    | cons e l ih => intro u; refine Int.le_trans (ih _) ?_; unfold Cal.unitStep; split <;> omega
  have key : ∀ (l : List (UInt8 × Bool)) (u : Int), ∀ e ∈ l, e.2 = true → l.foldl Cal.unitStep u ≤ Cal.unitOf e.1 := by
    intro l
    induction l with
    | nil => intro u e he; cases he
    | cons d l ih =>
      intro u e he h
      rcases List.mem_cons.1 he with rfl | he
      · refine Int.le_trans (mono l _) ?_
        unfold Cal.unitStep; rw [h]; simp; omega
      · exact ih _ e he h
  exact key l 5
theorem evs_code (l : List UInt8) : ∀ e ∈ Cal.evs l, e.2 = true → Cal.isCode e.1 = true := by
  induction l using Cal.evs.induct with
  | case1 => intro e he; cases he
  | case2 c => intro e he h; simp [Cal.evs] at he; subst he; exact h
  | case3 d r ih => intro e he h; simp [Cal.evs] at he; rcases he with rfl | he
                    · cases h
                    · exact ih e he h
  | case4 c d r hc ih => intro e he h; rw [Cal.evs, if_neg hc] at he; rcases List.mem_cons.1 he with rfl | he
                         · exact h
                         · exact ih e he h
theorem fmt_same (l : List UInt8) (n : Int) (hn : instB n = true) : Cal.fmt (stV (Cal.unit (Cal.evs l)) n) (Cal.evs l) = Cal.fmt n (Cal.evs l) := by
  have hu := unit_le (Cal.evs l)
  unfold Cal.fmt
  refine congrArg List.flatten (List.map_congr_left fun e he => ?_)
  unfold Cal.piece
  cases h : e.2
  · rfl
  · simp only [if_true]
    exact val_same e.1 _ n hu.2 hu.1 hn (unit_low _ e he h) (evs_code l e he h)

set_option maxHeartbeats 1000000 in
theorem law_unit (s : ByteArray) (n : Int) (w : World) (ht : Tab w) (hs : s.size ≤ maxLen) (_w0 : -9223372036854775808 ≤ n ∧ n ≤ 9223372036854775807) :
    Calls Tryd.prog 8 #[.string s, .int .i64 n] w fun e w' => e = .returned (.bool true) ∧ Below w.heap.size w w' := by
  unfold maxLen at hs
  have hB : bits BinOp.and IntKind.i64 n 67108863 = n % 67108864 := mask_i64 26 (by decide) n _ (by decide)
  have m1 : 0 ≤ n % 67108864 % 52596000 := by omega
  have m2 : n % 67108864 % 52596000 ≤ 52595999 := by omega
  by_cases hl : 400 < s.size
  · go_enter Tryd.func8, Tryd.ntmps8
    go_wp2_with fail
    refine (known_any _ ht).mono ?_
    rintro e w3 ⟨rfl, hb3⟩
    go_wp2_with fail
    go_ret
    exact ⟨rfl, hb3⟩
  · go_enter Tryd.func8, Tryd.ntmps8
    go_wp2_with fail
    generalize n % 67108864 % 52596000 = M at *
    have hM : instB M = true := instB_iff.2 ⟨m1, m2⟩
    have hu := unit_le (Cal.evs s.data.toList)
    have hsame := Lib.hid (fmt_same s.data.toList M hM)
    refine (unit_any s _ (by omega)).mono ?_
    rintro e w1 ⟨rfl, hb1⟩
    go_wp2_with fail
    refine (start_yes _ M _ hu.2 hu.1 hM).mono ?_
    rintro e w2 ⟨rfl, hb2⟩
    have hb := hb1.then_ hb2
    go_wp2_with fail
    refine (format_yes s M _ (by omega) hM (ht.on hb)).mono ?_
    rintro e w3 ⟨rfl, hb3⟩
    have hb' := hb.then_ hb3
    go_wp2_with fail
    refine (format_yes s (stV (Cal.unit (Cal.evs s.data.toList)) M) _ (by omega) (stV_inst hu.2 hu.1 hM) (ht.on hb')).mono ?_
    rintro e w4 ⟨rfl, hb4⟩
    rw [hsame.out]
    have hb'' := hb'.then_ hb4
    go_wp2_with fail
    refine (known_any _ (ht.on hb'')).mono ?_
    rintro e w5 ⟨rfl, hb5⟩
    go_wp2_with fail
    go_ret
    exact ⟨rfl, hb''.then_ hb5⟩
end Go.Proofs.YtdemfbaaimockaaDoor
