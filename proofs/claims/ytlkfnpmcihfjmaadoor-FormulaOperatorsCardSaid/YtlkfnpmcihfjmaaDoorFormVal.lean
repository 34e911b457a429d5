/-
  The value of a formula's tree. Conditions: those typed in each theorem.
-/
import Derived.Test.YtlkfnpmcihfjmaaDoorFormMem
import Derived.Test.YtlkfnpmcihfjmaaDoorNumBoth
import Derived.Test.YtlkfnpmcihfjmaaDoorNumPlain
import Derived.Test.YtlkfnpmcihfjmaaDoorFormTake
namespace Go.Proofs.YtlkfnpmcihfjmaaDoor
open Go.RowKit
set_option linter.unusedVariables false

/-- one for true, nought for false -/
def truthV (b : Bool) : Int := if b = true then 1 else 0
/-- a whole number from lo to hi -/
def wholeB (a b lo hi : Int) : Bool := decide (b = 1 ∧ lo ≤ a ∧ a ≤ hi)
/-- a power, by multiplying -/
def powV (a b : Int) : Nat → Int × Int × Int
  | 0 => (a, b, 0)
  | k + 1 => let r := powV a b k; if r.2.2 = 0 then (let m := mulV r.1 r.2.1 a b; if m.2.2 = 0 then m else (0, 0, m.2.2)) else r
def raiseV (a b c d : Int) : Int × Int × Int := if wholeB c d 0 30 = true then (if c = 0 then (1, 1, 0) else powV a b (c.toNat - 1)) else (0, 0, 2)
def roundsV (a b c d : Int) : Int × Int × Int := if wholeB c d 0 9 = true then roundV a b c else (0, 0, 2)
def signV (op : ByteArray) (a b : Int) : Int × Int × Int :=
  if op = ⟨#[45]⟩ then subV 0 1 a b else if op = ⟨#[110, 111, 116]⟩ then (truthV (a == 0), 1, 0)
  else if op = ⟨#[102, 108, 111, 111, 114]⟩ then (if (floorV a b).2 = 0 then (mkN (floorV a b).1 1, mkD (floorV a b).1 1, mkE (floorV a b).1 1) else (0, 0, (floorV a b).2)) else (a, b, 0)
def applyV (op : ByteArray) (a b c d : Int) : Int × Int × Int :=
  if op = ⟨#[43]⟩ then addV a b c d else if op = ⟨#[45]⟩ then subV a b c d else if op = ⟨#[42]⟩ then mulV a b c d else if op = ⟨#[47]⟩ then divV a b c d else if op = ⟨#[109, 111, 100]⟩ then modV a b c d
  else if op = ⟨#[94]⟩ then raiseV a b c d else if op = ⟨#[114, 111, 117, 110, 100]⟩ then roundsV a b c d
  else if op = ⟨#[61]⟩ then (truthV (cmpN a b c d == 0), 1, 0) else if op = ⟨#[60, 62]⟩ then (truthV (cmpN a b c d != 0), 1, 0) else if op = ⟨#[60]⟩ then (truthV (decide (cmpN a b c d < 0)), 1, 0)
  else if op = ⟨#[62]⟩ then (truthV (decide (0 < cmpN a b c d)), 1, 0) else if op = ⟨#[60, 61]⟩ then (truthV (decide (cmpN a b c d ≤ 0)), 1, 0) else if op = ⟨#[62, 61]⟩ then (truthV (decide (0 ≤ cmpN a b c d)), 1, 0)
  else if op = ⟨#[97, 110, 100]⟩ then (truthV (a != 0 && c != 0), 1, 0) else (truthV (a != 0 || c != 0), 1, 0)
end Go.Proofs.YtlkfnpmcihfjmaaDoor
