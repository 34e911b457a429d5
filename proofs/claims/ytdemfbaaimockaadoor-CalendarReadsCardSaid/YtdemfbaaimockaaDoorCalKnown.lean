/-
  The calendar's sanity check: it answers true. Condition: the library's table of powers of ten as it is laid.
-/
import Derived.Test.YtdemfbaaimockaaDoorCalFormat
import Derived.Test.YtdemfbaaimockaaDoorCalUnit
import Derived.Test.YtdemfbaaimockaaDoorCalMin
namespace Go.Proofs.YtdemfbaaimockaaDoor
open Go.RowKit

theorem known_text : Cal.fmt 12708000 (Cal.evs [106, 32, 70, 32, 89]) = [50, 57, 32, 70, 101, 98, 114, 117, 97, 114, 121, 32, 50, 48, 50, 52] := by
  have e : Cal.evs [106, 32, 70, 32, 89] = [(106, true), (32, false), (70, true), (32, false), (89, true)] := by decide
  have y : Cal.yOf (8825) = 2024 := by decide
  have m : Cal.mOf (8825) = 2 := by decide
  have d : Cal.dOf (8825) = 29 := by decide
  have i1 : Lib.itoa 2024 = [50, 48, 50, 52] := (itoa_reckon 2024 (by omega)).trans (by decide)
  have i2 : Lib.itoa 29 = [50, 57] := (itoa_reckon 29 (by omega)).trans (by decide)
  rw [e]
  simp [Cal.fmt, Cal.piece, Cal.val, y, m, d, i1, i2, Cal.monthL]
theorem known_unit : Cal.unit (Cal.evs [106]) = 3 := by decide

set_option maxHeartbeats 1000000 in
theorem known_any (w : World) (ht : Tab w) :
    Calls Tryd.prog 19 #[] w fun e w' => e = .returned (.bool true) ∧ Below w.heap.size w w' := by
  go_enter Tryd.func19, Tryd.ntmps19
  go_wp2_with fail
  refine (minute_yes 2024 2 29 0 _ (by decide)).mono ?_
  rintro e w1 ⟨rfl, hb1⟩
  go_wp2_with fail
  refine (format_yes _ 12708000 _ (by decide) (by decide) (ht.on hb1)).mono ?_
  rintro e w2 ⟨rfl, hb2⟩
  rw [known_text]
  go_wp2_with fail
  refine (unit_any _ _ (by decide)).mono ?_
  rintro e w3 ⟨rfl, hb3⟩
  have hu : Cal.unit (Cal.evs (ByteArray.mk #[106]).data.toList) = 3 := known_unit
  rw [hu]
  go_wp2_with fail
  go_ret
  exact ⟨rfl, (hb1.trans (hb2.mono hb1.size)).trans (hb3.mono (by have := hb1.size; have := hb2.size; omega))⟩
end Go.Proofs.YtdemfbaaimockaaDoor
