/-
  The law CalendarDates: for every date, clock and number the program and the reference give the same instant, date and weekday. Condition: the library's table of powers of ten as it is laid.
-/
import Derived.Test.YtdemfbaaimockaaDoorCalKnown
import Derived.Test.YtdemfbaaimockaaDoorCalMinRef
import Derived.Test.YtdemfbaaimockaaDoorCalDateRef
namespace Go.Proofs.YtdemfbaaimockaaDoor
open Go.RowKit

theorem _root_.Go.RowKit.Below.then_ {w w1 w2 : World} (h : Below w.heap.size w w1) (k : Below w1.heap.size w1 w2) : Below w.heap.size w w2 := h.trans (k.mono h.size)

theorem vd_parts (P : Prop) (y m d c : Int) (h1 : Cal.vd y m d c = true → P) (h2 : Cal.vd y m d c = false → P) : P := by
  cases h : Cal.vd y m d c
  · exact h2 h
  · exact h1 h
theorem minute_any (y m d c : Int) (w : World) :
    Calls Tryd.prog 13 #[.agg #[.int .i64 y, .int .i64 m, .int .i64 d], .int .i64 c] w fun e w' => e = .returned (.tuple #[.int .i64 (Cal.minV y m d c), .int .i64 (Cal.minE y m d c)]) ∧ Below w.heap.size w w' := by
  cases h : Cal.vd y m d c
  · rw [Cal.minV_no h, Cal.minE_no h]; exact minute_no y m d c w h
  · rw [Cal.minV_yes h, Cal.minE_yes h]; exact minute_yes y m d c w h
theorem minute_ref (y m d c : Int) (w : World) :
    Calls Tryd.prog 14 #[.agg #[.int .i64 y, .int .i64 m, .int .i64 d], .int .i64 c] w fun e w' => e = .returned (.tuple #[.int .i64 (Cal.minV y m d c), .int .i64 (Cal.minE y m d c)]) ∧ Below w.heap.size w w' := by
  cases h : Cal.vd y m d c
  · rw [Cal.minV_no h, Cal.minE_no h]; exact minute_ref_no y m d c w h
  · rw [Cal.minV_yes h, Cal.minE_yes h]; exact minute_ref_yes y m d c w h

/-- the date of a number, its clock, the error: zero and 2 where it is no instant -/
def dY (n : Int) : Int := if instB n = true then Cal.yOf (n / 1440) else 0
def dM (n : Int) : Int := if instB n = true then Cal.mOf (n / 1440) else 0
def dD (n : Int) : Int := if instB n = true then Cal.dOf (n / 1440) else 0
def dC (n : Int) : Int := if instB n = true then n % 1440 else 0
def dE (n : Int) : Int := if instB n = true then 0 else 2
def dW (n : Int) : Int := if instB n = true then (n / 1440 + 5) % 7 + 1 else 0
theorem dateOf_any (n : Int) (w : World) :
    Calls Tryd.prog 15 #[.int .i64 n] w fun e w' => e = .returned (.tuple #[.agg #[.int .i64 (dY n), .int .i64 (dM n), .int .i64 (dD n)], .int .i64 (dC n), .int .i64 (dE n)]) ∧ Below w.heap.size w w' := by
  cases h : instB n <;> simp only [dY, dM, dD, dC, dE, h, if_true, if_false, Bool.false_eq_true]
  · exact dateOf_no n w h
  · exact dateOf_yes n w h
theorem dateOf_ref (n : Int) (w : World) :
    Calls Tryd.prog 16 #[.int .i64 n] w fun e w' => e = .returned (.tuple #[.agg #[.int .i64 (dY n), .int .i64 (dM n), .int .i64 (dD n)], .int .i64 (dC n), .int .i64 (dE n)]) ∧ Below w.heap.size w w' := by
  cases h : instB n <;> simp only [dY, dM, dD, dC, dE, h, if_true, if_false, Bool.false_eq_true]
  · exact dateOf_ref_no n w h
  · exact dateOf_ref_yes n w h
theorem weekday_any (n : Int) (w : World) :
    Calls Tryd.prog 17 #[.int .i64 n] w fun e w' => e = .returned (.tuple #[.int .i64 (dW n), .int .i64 (dE n)]) ∧ w = w' := by
  cases h : instB n <;> simp only [dW, dE, h, if_true, if_false, Bool.false_eq_true]
  · exact weekday_no n w h
  · exact weekday_yes n w h
theorem weekday_ref (n : Int) (w : World) :
    Calls Tryd.prog 18 #[.int .i64 n] w fun e w' => e = .returned (.tuple #[.int .i64 (dW n), .int .i64 (dE n)]) ∧ w = w' := by
  cases h : instB n <;> simp only [dW, dE, h, if_true, if_false, Bool.false_eq_true]
  · exact weekday_ref_no n w h
  · exact weekday_ref_yes n w h
end Go.Proofs.YtdemfbaaimockaaDoor
