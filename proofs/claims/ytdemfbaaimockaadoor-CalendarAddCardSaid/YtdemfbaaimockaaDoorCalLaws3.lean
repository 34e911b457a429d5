/-
  The law CalendarAdd, walked: it answers true, and writes nothing that was there. Condition: the library's table of powers of ten as it is laid.
-/
import Derived.Test.YtdemfbaaimockaaDoorCalAddRef
import Derived.Test.YtdemfbaaimockaaDoorCalKnown
import Derived.Test.YtdemfbaaimockaaDoorMask
namespace Go.Proofs.YtdemfbaaimockaaDoor
open Go.RowKit

theorem law_add (t u n : Int) (w : World) (ht : Tab w) :
    Calls Tryd.prog 3 #[.int .i64 t, .int .i64 u, .int .i64 n] w fun e w' => e = .returned (.bool true) ∧ Below w.heap.size w w' := by
  go_enter Tryd.func3, Tryd.ntmps3
  go_wp2_with fail
  refine (add_any t u n _).mono ?_
  rintro e w1 ⟨rfl, hb1⟩
  go_wp2_with fail
  refine (add_ref t u n _).mono ?_
  rintro e w2 ⟨rfl, hb2⟩
  have hb := hb1.then_ hb2
  go_wp2_with fail
  refine (known_any _ (ht.on hb)).mono ?_
  rintro e w3 ⟨rfl, hb3⟩
  go_wp2_with fail
  go_ret
  exact ⟨rfl, hb.then_ hb3⟩

end Go.Proofs.YtdemfbaaimockaaDoor
