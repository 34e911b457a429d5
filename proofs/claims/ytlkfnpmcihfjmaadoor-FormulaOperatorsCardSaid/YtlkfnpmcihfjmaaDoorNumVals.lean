/-
  The values of the operations on numbers. No program in sight. No conditions but those typed in each theorem.
-/
import Derived.Test.YtlkfnpmcihfjmaaDoorNumFrac
import Derived.Test.YtlkfnpmcihfjmaaDoorNumFloor
import Derived.Test.YtlkfnpmcihfjmaaDoorNumRound
namespace Go.Proofs.YtlkfnpmcihfjmaaDoor
def opV (z : Bool) (n m a b c d : Int) : Int × Int × Int := if (Num.val a b && Num.val c d) = true then (if (z && c == 0) = true then (0, 0, 16) else Num.red n m) else (0, 0, 7)
theorem opV_ok {z : Bool} {n m a b c d : Int} (v1 : Num.val a b = true) (v2 : Num.val c d = true) (h : z = false ∨ c ≠ 0) : opV z n m a b c d = Num.red n m := by
  unfold opV
  rw [v1, v2, if_pos (by rfl), if_neg]
  rcases h with rfl | h
  · simp
  · simp [h]
theorem opV_zero {n m a b c d : Int} (v1 : Num.val a b = true) (v2 : Num.val c d = true) (h : c = 0) : opV true n m a b c d = (0, 0, 16) := by
  unfold opV
  rw [v1, v2, if_pos (by rfl), if_pos (by simp [h])]
/-- the value of Add -/
def addV (a b c d : Int) : Int × Int × Int := opV false (a * d + c * b) (b * d) a b c d
/-- the value of Sub -/
def subV (a b c d : Int) : Int × Int × Int := opV false (a * d - c * b) (b * d) a b c d
/-- the value of Mul -/
def mulV (a b c d : Int) : Int × Int × Int := opV false (a * c) (b * d) a b c d
/-- the value of Div -/
def divV (a b c d : Int) : Int × Int × Int := opV true (a * d) (b * c) a b c d
/-- the value of Mod -/
def modV (a b c d : Int) : Int × Int × Int := opV true (modR (a * d) (c * b)) (b * d) a b c d
/-- the value of Round -/
def roundV (a b k : Int) : Int × Int × Int := if Num.val a b = true then (if k < 0 ∨ 9 < k then (0, 0, 2) else Num.red (rndQ a b (10 ^ k.toNat)) (10 ^ k.toNat)) else (0, 0, 7)
/-- the value of Floor -/
def floorV (a b : Int) : Int × Int := if Num.val a b = true then (a / b, 0) else (0, 7)
end Go.Proofs.YtlkfnpmcihfjmaaDoor
