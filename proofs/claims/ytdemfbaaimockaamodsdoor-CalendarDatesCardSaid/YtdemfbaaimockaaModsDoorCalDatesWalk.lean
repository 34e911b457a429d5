/-
  The law CalendarDates, walked: it answers true, and writes nothing that was there. Condition: the library's table of powers of ten as it is laid.
-/
import Derived.Test.YtdemfbaaimockaaModsDoorCalAll
namespace Go.Proofs.YtdemfbaaimockaaModsDoor
open Go.RowKit

set_option maxHeartbeats 2000000 in
theorem law_dates (y m d c n : Int) (w : World) (ht : Tab w) :
    Calls Trym.prog 3 #[.agg #[.int .i64 y, .int .i64 m, .int .i64 d], .int .i64 c, .int .i64 n] w fun e w' => e = .returned (.bool true) ∧ Below w.heap.size w w' := by
  go_enter Trym.func3, Trym.ntmps3
  go_wp2_with fail
  refine (minute_any y m d c _).mono ?_
  rintro e w1 ⟨rfl, hb1⟩
  have K1 := (Known.made _ _ _).on hb1
  obtain ⟨f0, f1, f2⟩ := K1.three
  go_wp2_with fail
  refine (minute_ref y m d c _).mono ?_
  rintro e w2 ⟨rfl, hb2⟩
  clear f0 f1 f2 K1
  go_wp2_with fail
  refine (dateOf_any n _).mono ?_
  rintro e w3 ⟨rfl, hb3⟩
  go_wp2_with fail
  refine (dateOf_ref n _).mono ?_
  rintro e w4 ⟨rfl, hb4⟩
  have K1 := (Known.made _ _ _).on hb4
  go_wp2_with fail
  refine (weekday_any n _).mono ?_
  rintro e w5 ⟨rfl, rfl⟩
  go_wp2_with fail
  refine (weekday_ref n _).mono ?_
  rintro e w5 ⟨rfl, rfl⟩
  have K2 := K1.alloc (.cells #[.int .i64 (dY n), .int .i64 (dM n), .int .i64 (dD n)] 23)
  obtain ⟨f0, f1, f2⟩ := K2.three
  go_wp2_with fail
  have hb := ((((below_new0 w _).then_ hb1).then_ hb2).then_ hb3).then_ ((below_new0 w3 _).then_ hb4)
  refine (known_any _ ((ht.on hb).alloc _)).mono ?_
  rintro e w6 ⟨rfl, hb6⟩
  clear f0 f1 f2
  go_wp2_with fail
  go_ret
  exact ⟨rfl, hb.then_ ((below_new0 w4 _).then_ hb6)⟩
end Go.Proofs.YtdemfbaaimockaaModsDoor
