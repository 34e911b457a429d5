/-
  Each operation on numbers: one result for all arguments, by the program and by the reference. Conditions: those typed in each theorem.
-/
import Derived.Test.YtlkfnpmcihfjmaaDoorNumMod
import Derived.Test.YtlkfnpmcihfjmaaDoorNumVals
import Derived.Test.YtlkfnpmcihfjmaaDoorNumFloor2
namespace Go.Proofs.YtlkfnpmcihfjmaaDoor
open Go.RowKit

/-- a number that a function returns, with its error -/
def Ret (f : FuncId) (args : Array Value) (r : Int × Int × Int) : Prop := ∀ w, Calls Tryd.prog f args w fun e w' => e = .returned (.tuple #[.agg #[.int .i64 r.1, .int .i64 r.2.1], .int .i64 r.2.2]) ∧ Below w.heap.size w w'
/-- two numbers as arguments -/
abbrev args2 (a b c d : Int) : Array Value := #[.agg #[.int .i64 a, .int .i64 b], .agg #[.int .i64 c, .int .i64 d]]
theorem addP_any (a b c d : Int) (i1 : I64 a) (i2 : I64 b) (i3 : I64 c) (i4 : I64 d) : Ret 66 (args2 a b c d) (addV a b c d) := by
  intro w
  unfold addV opV
  cases v1 : Num.val a b
  · exact addP_no1 a b c d w i1 i2 i3 i4 v1
  cases v2 : Num.val c d
  · exact addP_no2 a b c d w i1 i2 i3 i4 v1 v2
  rw [if_pos (by rfl), if_neg (by simp)]
  exact addP_ok a b c d w i1 i2 i3 i4 v1 v2
theorem addR_any (a b c d : Int) (i1 : I64 a) (i2 : I64 b) (i3 : I64 c) (i4 : I64 d) : Ret 12 (args2 a b c d) (addV a b c d) := by
  intro w
  unfold addV opV
  cases v1 : Num.val a b
  · exact addR_no1 a b c d w i1 i2 i3 i4 v1
  cases v2 : Num.val c d
  · exact addR_no2 a b c d w i1 i2 i3 i4 v1 v2
  rw [if_pos (by rfl), if_neg (by simp)]
  exact addR_ok a b c d w i1 i2 i3 i4 v1 v2
theorem subP_any (a b c d : Int) (i1 : I64 a) (i2 : I64 b) (i3 : I64 c) (i4 : I64 d) : Ret 61 (args2 a b c d) (subV a b c d) := by
  intro w
  unfold subV opV
  cases v1 : Num.val a b
  · exact subP_no1 a b c d w i1 i2 i3 i4 v1
  cases v2 : Num.val c d
  · exact subP_no2 a b c d w i1 i2 i3 i4 v1 v2
  rw [if_pos (by rfl), if_neg (by simp)]
  exact subP_ok a b c d w i1 i2 i3 i4 v1 v2
theorem subR_any (a b c d : Int) (i1 : I64 a) (i2 : I64 b) (i3 : I64 c) (i4 : I64 d) : Ret 13 (args2 a b c d) (subV a b c d) := by
  intro w
  unfold subV opV
  cases v1 : Num.val a b
  · exact subR_no1 a b c d w i1 i2 i3 i4 v1
  cases v2 : Num.val c d
  · exact subR_no2 a b c d w i1 i2 i3 i4 v1 v2
  rw [if_pos (by rfl), if_neg (by simp)]
  exact subR_ok a b c d w i1 i2 i3 i4 v1 v2
theorem mulP_any (a b c d : Int) (i1 : I64 a) (i2 : I64 b) (i3 : I64 c) (i4 : I64 d) : Ret 67 (args2 a b c d) (mulV a b c d) := by
  intro w
  unfold mulV opV
  cases v1 : Num.val a b
  · exact mulP_no1 a b c d w i1 i2 i3 i4 v1
  cases v2 : Num.val c d
  · exact mulP_no2 a b c d w i1 i2 i3 i4 v1 v2
  rw [if_pos (by rfl), if_neg (by simp)]
  exact mulP_ok a b c d w i1 i2 i3 i4 v1 v2
theorem mulR_any (a b c d : Int) (i1 : I64 a) (i2 : I64 b) (i3 : I64 c) (i4 : I64 d) : Ret 14 (args2 a b c d) (mulV a b c d) := by
  intro w
  unfold mulV opV
  cases v1 : Num.val a b
  · exact mulR_no1 a b c d w i1 i2 i3 i4 v1
  cases v2 : Num.val c d
  · exact mulR_no2 a b c d w i1 i2 i3 i4 v1 v2
  rw [if_pos (by rfl), if_neg (by simp)]
  exact mulR_ok a b c d w i1 i2 i3 i4 v1 v2
theorem divP_any (a b c d : Int) (i1 : I64 a) (i2 : I64 b) (i3 : I64 c) (i4 : I64 d) : Ret 68 (args2 a b c d) (divV a b c d) := by
  intro w
  unfold divV opV
  cases v1 : Num.val a b
  · exact divP_no1 a b c d w i1 i2 i3 i4 v1
  cases v2 : Num.val c d
  · exact divP_no2 a b c d w i1 i2 i3 i4 v1 v2
  by_cases hc : c = 0
  · rw [if_pos (by rfl), if_pos (by simp [hc])]
    exact divP_zero a b c d w i1 i2 i3 i4 v1 v2 hc
  rw [if_pos (by rfl), if_neg (by simp [hc])]
  exact divP_ok a b c d w i1 i2 i3 i4 v1 v2 hc
theorem divR_any (a b c d : Int) (i1 : I64 a) (i2 : I64 b) (i3 : I64 c) (i4 : I64 d) : Ret 15 (args2 a b c d) (divV a b c d) := by
  intro w
  unfold divV opV
  cases v1 : Num.val a b
  · exact divR_no1 a b c d w i1 i2 i3 i4 v1
  cases v2 : Num.val c d
  · exact divR_no2 a b c d w i1 i2 i3 i4 v1 v2
  by_cases hc : c = 0
  · rw [if_pos (by rfl), if_pos (by simp [hc])]
    exact divR_zero a b c d w i1 i2 i3 i4 v1 v2 hc
  rw [if_pos (by rfl), if_neg (by simp [hc])]
  exact divR_ok a b c d w i1 i2 i3 i4 v1 v2 hc
theorem modP_any (a b c d : Int) (i1 : I64 a) (i2 : I64 b) (i3 : I64 c) (i4 : I64 d) : Ret 69 (args2 a b c d) (modV a b c d) := by
  intro w
  unfold modV opV
  cases v1 : Num.val a b
  · exact modP_no1 a b c d w i1 i2 i3 i4 v1
  cases v2 : Num.val c d
  · exact modP_no2 a b c d w i1 i2 i3 i4 v1 v2
  by_cases hc : c = 0
  · rw [if_pos (by rfl), if_pos (by simp [hc])]
    exact modP_zero a b c d w i1 i2 i3 i4 v1 v2 hc
  rw [if_pos (by rfl), if_neg (by simp [hc])]
  exact modP_ok a b c d w i1 i2 i3 i4 v1 v2 hc
theorem modR_any (a b c d : Int) (i1 : I64 a) (i2 : I64 b) (i3 : I64 c) (i4 : I64 d) : Ret 16 (args2 a b c d) (modV a b c d) := by
  intro w
  unfold modV opV
  cases v1 : Num.val a b
  · exact modR_no1 a b c d w i1 i2 i3 i4 v1
  cases v2 : Num.val c d
  · exact modR_no2 a b c d w i1 i2 i3 i4 v1 v2
  by_cases hc : c = 0
  · rw [if_pos (by rfl), if_pos (by simp [hc])]
    exact modR_zero a b c d w i1 i2 i3 i4 v1 v2 hc
  rw [if_pos (by rfl), if_neg (by simp [hc])]
  exact modR_ok a b c d w i1 i2 i3 i4 v1 v2 hc
theorem roundP_any (a b k : Int) (i1 : I64 a) (i2 : I64 b) : Ret 72 #[.agg #[.int .i64 a, .int .i64 b], .int .i64 k] (roundV a b k) := by
  intro w
  unfold roundV
  cases v1 : Num.val a b
  · exact roundP_no a b k w i1 i2 v1
  rw [if_pos rfl]
  by_cases hk : k < 0 ∨ 9 < k
  · rw [if_pos hk]
    exact roundP_range a b k w i1 i2 v1 hk
  · rw [if_neg hk]
    have := roundP_ok a b k.toNat w i1 i2 v1 (by omega)
    rw [show (k.toNat : Int) = k by omega] at this
    exact this
theorem floorP_any (a b : Int) (w : World) (i1 : I64 a) (i2 : I64 b) : Calls Tryd.prog 63 #[.agg #[.int .i64 a, .int .i64 b]] w fun e w' => e = .returned (.tuple #[.int .i64 (floorV a b).1, .int .i64 (floorV a b).2]) ∧ Below w.heap.size w w' := by
  unfold floorV
  cases v1 : Num.val a b
  · exact floorP_no a b w i1 i2 v1
  · exact floorP_ok a b w i1 i2 v1
end Go.Proofs.YtlkfnpmcihfjmaaDoor