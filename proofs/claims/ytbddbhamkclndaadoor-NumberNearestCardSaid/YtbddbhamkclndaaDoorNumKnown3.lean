/-
  The numbers' sanity check. Conditions: those typed in each theorem.
-/
import Derived.Test.YtbddbhamkclndaaDoorNumKnown2
namespace Go.Proofs.YtbddbhamkclndaaDoor
open Go.RowKit

theorem make_23 : mkN 2 3 = 2 ∧ mkD 2 3 = 3 ∧ mkE 2 3 = 0 := by decide
theorem valid_23 (w : World) : Calls Tryd.prog 16 #[.agg #[.int .i64 2, .int .i64 3]] w fun e w' => e = .returned (.bool true) ∧ Below w.heap.size w w' := by
  have := valid_any 2 3 w (by omega) (by omega)
  rw [show Num.val 2 3 = true by decide] at this
  exact this

set_option maxHeartbeats 1000000 in
theorem known_any (w : World) :
    Calls Tryd.prog 18 #[] w fun e w' => e = .returned (.bool true) ∧ Below w.heap.size w w' := by
  obtain ⟨r1, r2, r3⟩ := make_23
  go_enter Tryd.func18, Tryd.ntmps18
  go_wp2_with fail
  refine (make_any 2 3 _).mono ?_
  rintro e w1 ⟨rfl, hb1⟩
  rw [r1, r2, r3]
  go_wp2_with fail
  refine (fixed_23 _).mono ?_
  rintro e w2 ⟨rfl, hb2⟩
  have hb := (hb1.then_ (below_new0 w1 (.cells #[.int .i64 2, .int .i64 3] 23))).then_ hb2
  have Kn := (Known.made w1 23 #[.int .i64 2, .int .i64 3]).on hb2
  obtain ⟨f0, f1⟩ := Kn.two
  go_wp2_with fail
  refine (format_23 _).mono ?_
  rintro e w3 ⟨rfl, hb3⟩
  obtain ⟨f0', f1'⟩ := (Kn.on hb3).two
  go_wp2_with fail
  refine (valid_23 _).mono ?_
  rintro e w4 ⟨rfl, hb4⟩
  go_wp2_with fail
  go_ret
  exact ⟨rfl, (hb.then_ hb3).then_ hb4⟩
end Go.Proofs.YtbddbhamkclndaaDoor
