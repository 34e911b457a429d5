/-
  Contracts of functions of two numbers. Conditions: those typed in each theorem.
-/
import Derived.Test.YtlkfnpmcihfjmaaDoorNumBoth
namespace Go.Proofs.YtlkfnpmcihfjmaaDoor
open Go.RowKit

theorem Known.made2 (w : World) (t : TypeId) (cs : Array Value) (o : Obj) : Known ((w.alloc o).alloc (.cells cs t)) (w.heap.size + 1) t cs := by
  have := Known.made (w.alloc o) t cs
  rw [show (w.alloc o).heap.size = w.heap.size + 1 by simp] at this
  exact this
theorem Known.made3 (w : World) (t : TypeId) (cs : Array Value) (o o' : Obj) : Known (((w.alloc o).alloc o').alloc (.cells cs t)) (w.heap.size + 1 + 1) t cs := by
  have := Known.made ((w.alloc o).alloc o') t cs
  rw [show ((w.alloc o).alloc o').heap.size = w.heap.size + 1 + 1 by simp] at this
  exact this
/-- a function of two numbers that returns a number and an error -/
def Ret3 (f : FuncId) (a b c d x y z : Int) : Prop := ∀ w, Calls Tryd.prog f #[.agg #[.int .i64 a, .int .i64 b], .agg #[.int .i64 c, .int .i64 d]] w fun e w' => e = .returned (.tuple #[.agg #[.int .i64 x, .int .i64 y], .int .i64 z]) ∧ Below w.heap.size w w'
theorem Ret.to3 {f : FuncId} {a b c d x y z : Int} {r : Int × Int × Int} (h : Ret f (args2 a b c d) r) (e : r = (x, y, z)) : Ret3 f a b c d x y z := by subst e; exact h
/-- a function of two numbers that returns an integer -/
def RetI (f : FuncId) (a b c d x : Int) : Prop := ∀ w, Calls Tryd.prog f #[.agg #[.int .i64 a, .int .i64 b], .agg #[.int .i64 c, .int .i64 d]] w fun e w' => e = .returned (.int .i64 x) ∧ Below w.heap.size w w'
theorem cmp_any (a b c d : Int) (i1 : I64 a) (i2 : I64 b) (i3 : I64 c) (i4 : I64 d) : RetI 65 a b c d (cmpN a b c d) := fun w => compareP a b c d w i1 i2 i3 i4
theorem val_i64 {a b : Int} (v : Num.val a b = true) : I64 a ∧ I64 b := by
  have := Num.val_iff.1 v
  unfold I64
  omega

end Go.Proofs.YtlkfnpmcihfjmaaDoor
