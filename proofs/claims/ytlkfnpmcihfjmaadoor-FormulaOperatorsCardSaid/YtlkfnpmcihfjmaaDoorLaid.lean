/-
  What the rows' list of variables gives: the table of powers of ten; a world for the witnesses. No conditions.
-/
import Derived.Test.YtlkfnpmcihfjmaaDoorRows
import Derived.Test.YtlkfnpmcihfjmaaDoorItoa
import Derived.ProofKit
import Derived.Lib.LaidTab
namespace Go.Proofs.YtlkfnpmcihfjmaaDoor
open Go.ChangeShapes Go.WideShapes Go.ChangeAt Go.RowKit

theorem own : ownKnob Tryd.prog.godebug = none := by kernel_rfl
theorem laidOut : laidOutB Tryd.prog = true := by kernel_rfl
theorem gPow : Tryd.prog.globalNamed "internal/strconv.uint64pow10" = some 3 := by kernel_rfl
theorem gPowType : (Tryd.prog.globals[3]?).map (·.type) = some 128 := by kernel_rfl
end Go.Proofs.YtlkfnpmcihfjmaaDoor
