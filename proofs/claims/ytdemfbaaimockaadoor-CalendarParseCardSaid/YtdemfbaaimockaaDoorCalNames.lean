/-
  The calendar's texts of codes, by the program: what each function returns. Conditions: those typed in each theorem; the library's table of powers of ten as it is laid.
-/
import Derived.Test.YtdemfbaaimockaaDoorItoa
import Derived.Test.YtdemfbaaimockaaDoorCalText
import Derived.Test.YtdemfbaaimockaaDoorCalDate
import Derived.Laws.IdiomArrays
namespace Go.Proofs.YtdemfbaaimockaaDoor
open Go.RowKit

theorem two_any (n : Int) (w : World) (h0 : 0 ≤ n) (h1 : n ≤ 1000) (ht : Tab w) :
    Calls Tryd.prog 54 #[.int .i64 n] w fun e w' => e = .returned (.string ⟨(Cal.two n).toArray⟩) ∧ Below w.heap.size w w' := by
  have hl := Lib.itoa_length_le n (by omega) (by omega)
  by_cases hn : n < 10
  all_goals
    go_enter Tryd.func54, Tryd.ntmps54
    go_wp2_with fail
    refine (itoa_any n _ (by omega) (by omega) ht).mono ?_
    rintro e w1 ⟨rfl, hb1⟩
    go_wp2_with fail
    go_ret
  · exact ⟨by rw [Cal.two, if_pos (by omega)]; simp [ByteArray.mk_append_mk], hb1⟩
  · exact ⟨by rw [Cal.two, if_neg (by omega)]; rfl, hb1⟩

theorem monthName_index (n : Int) (w : World) (h0 : 1 ≤ n) (h1 : n ≤ 12) : (Instr.index 72 (.agg #[.string ⟨#[74, 97, 110, 117, 97, 114, 121]⟩, .string ⟨#[70, 101, 98, 114, 117, 97, 114, 121]⟩, .string ⟨#[77, 97, 114, 99, 104]⟩, .string ⟨#[65, 112, 114, 105, 108]⟩, .string ⟨#[77, 97, 121]⟩, .string ⟨#[74, 117, 110, 101]⟩, .string ⟨#[74, 117, 108, 121]⟩, .string ⟨#[65, 117, 103, 117, 115, 116]⟩, .string ⟨#[83, 101, 112, 116, 101, 109, 98, 101, 114]⟩, .string ⟨#[79, 99, 116, 111, 98, 101, 114]⟩, .string ⟨#[78, 111, 118, 101, 109, 98, 101, 114]⟩, .string ⟨#[68, 101, 99, 101, 109, 98, 101, 114]⟩]) (.int .i64 (n - 1))).run Tryd.prog w = .ok (.string ⟨(Cal.monthL n).toArray⟩) w := by
  rcases (show n = 1 ∨ n = 2 ∨ n = 3 ∨ n = 4 ∨ n = 5 ∨ n = 6 ∨ n = 7 ∨ n = 8 ∨ n = 9 ∨ n = 10 ∨ n = 11 ∨ n = 12 by omega) with rfl | rfl | rfl | rfl | rfl | rfl | rfl | rfl | rfl | rfl | rfl | rfl <;> kernel_rfl
set_option maxHeartbeats 1000000 in
theorem monthName_any (n : Int) (w : World) (h0 : 1 ≤ n) (h1 : n ≤ 12) :
    Calls Tryd.prog 55 #[.int .i64 n] w fun e w' => e = .returned (.string ⟨(Cal.monthL n).toArray⟩) ∧ w = w' := by
  have i0 := monthName_index n w h0 h1
  go_enter Tryd.func55, Tryd.ntmps55
  go_wp2
  go_ret
  exact ⟨rfl, rfl⟩

theorem dayName_index (n : Int) (w : World) (h0 : 1 ≤ n) (h1 : n ≤ 7) : (Instr.index 73 (.agg #[.string ⟨#[77, 111, 110, 100, 97, 121]⟩, .string ⟨#[84, 117, 101, 115, 100, 97, 121]⟩, .string ⟨#[87, 101, 100, 110, 101, 115, 100, 97, 121]⟩, .string ⟨#[84, 104, 117, 114, 115, 100, 97, 121]⟩, .string ⟨#[70, 114, 105, 100, 97, 121]⟩, .string ⟨#[83, 97, 116, 117, 114, 100, 97, 121]⟩, .string ⟨#[83, 117, 110, 100, 97, 121]⟩]) (.int .i64 (n - 1))).run Tryd.prog w = .ok (.string ⟨(Cal.dayL n).toArray⟩) w := by
  rcases (show n = 1 ∨ n = 2 ∨ n = 3 ∨ n = 4 ∨ n = 5 ∨ n = 6 ∨ n = 7 by omega) with rfl | rfl | rfl | rfl | rfl | rfl | rfl <;> kernel_rfl
set_option maxHeartbeats 1000000 in
theorem dayName_any (n : Int) (w : World) (h0 : 1 ≤ n) (h1 : n ≤ 7) :
    Calls Tryd.prog 56 #[.int .i64 n] w fun e w' => e = .returned (.string ⟨(Cal.dayL n).toArray⟩) ∧ w = w' := by
  have i0 := dayName_index n w h0 h1
  go_enter Tryd.func56, Tryd.ntmps56
  go_wp2
  go_ret
  exact ⟨rfl, rfl⟩

end Go.Proofs.YtdemfbaaimockaaDoor
