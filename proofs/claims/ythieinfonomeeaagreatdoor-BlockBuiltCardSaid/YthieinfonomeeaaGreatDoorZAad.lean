/-
  The claim's own texts, packed. Conditions: those typed in each theorem.
-/
import Derived.Test.YthieinfonomeeaaGreatDoorZAac
namespace Go.Proofs.YthieinfonomeeaaGreatDoor.Inl
open Go.RowKit Doc Tit
set_option linter.unusedVariables false
def pl (c : UInt8) : Prop := c ≠ 91 ∧ c ≠ 60 ∧ c ≠ 38 ∧ c ≠ 39
theorem flush_nil (st : Stk) : flush st [] = st := rfl
end Go.Proofs.YthieinfonomeeaaGreatDoor.Inl
namespace Go.Proofs.YthieinfonomeeaaGreatDoor.Inl
open Go.RowKit Doc Tit
set_option linter.unusedVariables false
theorem index_cons (b : UInt8) (l sub : List UInt8) : Lib.index (b :: l) sub = if Lib.hasPrefix (b :: l) sub then 0 else if Lib.index l sub == -1 then -1 else Lib.index l sub + 1 := rfl
end Go.Proofs.YthieinfonomeeaaGreatDoor.Inl
