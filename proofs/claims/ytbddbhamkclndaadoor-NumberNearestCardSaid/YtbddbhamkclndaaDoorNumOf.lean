/-
  The numbers that the laws draw. Conditions: those typed in each theorem.
-/
import Derived.Test.YtbddbhamkclndaaDoorNumBoth
import Derived.Test.YtbddbhamkclndaaDoorNumPlain2
import Derived.Test.YtbddbhamkclndaaDoorNumKnown3
import Derived.Test.YtbddbhamkclndaaDoorMask
namespace Go.Proofs.YtbddbhamkclndaaDoor
open Go.RowKit

theorem Known.made2 (w : World) (t : TypeId) (cs : Array Value) (o : Obj) : Known ((w.alloc o).alloc (.cells cs t)) (w.heap.size + 1) t cs := by
  have := Known.made (w.alloc o) t cs
  rw [show (w.alloc o).heap.size = w.heap.size + 1 by simp] at this
  exact this
theorem Known.made3 (w : World) (t : TypeId) (cs : Array Value) (o o' : Obj) : Known (((w.alloc o).alloc o').alloc (.cells cs t)) (w.heap.size + 1 + 1) t cs := by
  have := Known.made ((w.alloc o).alloc o') t cs
  rw [show ((w.alloc o).alloc o').heap.size = w.heap.size + 1 + 1 by simp] at this
  exact this
/-- a function of two numbers that returns a number and an error -/
def Ret3 (f : FuncId) (a b c d x y z : Int) : Prop := ∀ w, Calls Tryd.prog f #[.agg #[.int .i64 a, .int .i64 b], .agg #[.int .i64 c, .int .i64 d]] w fun e w' => e = .returned (.tuple #[.agg #[.int .i64 x, .int .i64 y], .int .i64 z]) ∧ Below w.heap.size w w'
theorem Ret.to3 {f : FuncId} {a b c d x y z : Int} {r : Int × Int × Int} (h : Ret f (args2 a b c d) r) (e : r = (x, y, z)) : Ret3 f a b c d x y z := by subst e; exact h
/-- a function of two numbers that returns an integer -/
def RetI (f : FuncId) (a b c d x : Int) : Prop := ∀ w, Calls Tryd.prog f #[.agg #[.int .i64 a, .int .i64 b], .agg #[.int .i64 c, .int .i64 d]] w fun e w' => e = .returned (.int .i64 x) ∧ Below w.heap.size w w'
theorem cmp_any (a b c d : Int) (i1 : I64 a) (i2 : I64 b) (i3 : I64 c) (i4 : I64 d) : RetI 31 a b c d (cmpN a b c d) := fun w => compareP a b c d w i1 i2 i3 i4
theorem val_i64 {a b : Int} (v : Num.val a b = true) : I64 a ∧ I64 b := by
  have := Num.val_iff.1 v
  unfold I64
  omega

set_option maxHeartbeats 1000000 in
theorem of_any (a b : Int) : ∃ p q, Small p q ∧ ∀ w, Calls Tryd.prog 27 #[.int .i64 a, .int .i64 b] w fun e w' => e = .returned (.agg #[.int .i64 p, .int .i64 q]) ∧ Below w.heap.size w w' := by
  have hB : bits BinOp.and IntKind.i64 b 1023 = b % 1024 := mask_i64 10 (by decide) b _ (by decide)
  have ha := tmod_bd a 2000 (by omega)
  have hM := makeRef_any (a.tmod 2000) (1 + b % 1024)
  have hd : 1 + b % 1024 ≠ 0 := by omega
  have h1 := Num.rN_abs (a.tmod 2000) hd
  have h2 := Num.rD_le (a.tmod 2000) hd
  have h3 := Num.rD_pos (a.tmod 2000) hd
  have h4 : Num.sD (1 + b % 1024) = 1 + b % 1024 := by unfold Num.sD; rw [if_neg (by omega)]
  have hr : Num.rB (a.tmod 2000) (1 + b % 1024) = true := by unfold Num.rB; simp; omega
  have hk : mkB (a.tmod 2000) (1 + b % 1024) = true := by unfold mkB inV; simp; omega
  have hv := Num.red_val hd hr
  have e1 : mkN (a.tmod 2000) (1 + b % 1024) = Num.rN (a.tmod 2000) (1 + b % 1024) := by simp [mkN, hk, Num.redN, hr]
  have e2 : mkD (a.tmod 2000) (1 + b % 1024) = Num.rD (a.tmod 2000) (1 + b % 1024) := by simp [mkD, hk, Num.redD, hr]
  have e3 : mkE (a.tmod 2000) (1 + b % 1024) = 0 := by simp [mkE, hk, Num.redE, hr]
  rw [e1, e2, e3] at hM
  have hz : 1 + b % 1024 ≤ 1024 := by omega
  clear e1 e2 e3 hk hr
  generalize Num.rN (a.tmod 2000) (1 + b % 1024) = p at *
  generalize Num.rD (a.tmod 2000) (1 + b % 1024) = q at *
  refine ⟨p, q, ⟨hv, by omega, by omega, by omega, by omega⟩, fun w => ?_⟩
  clear h1 h2 h3 h4 hv
  go_enter Tryd.func27, Tryd.ntmps27
  go_wp2_with fail
  refine (hM _).mono ?_
  rintro e w1 ⟨rfl, hb1⟩
  have hb := (below_new0 w (.cells #[.int .i64 0, .int .i64 0] 23)).then_ hb1
  have KR := ((Known.made w 23 #[.int .i64 0, .int .i64 0]).on hb1).alloc (.cells #[.int .i64 p, .int .i64 q] 23)
  obtain ⟨r0, r1⟩ := KR.two
  have q0 := KR.free 0
  have q1 := KR.free 1
  obtain ⟨x0, x1⟩ := (Known.made w1 23 #[.int .i64 p, .int .i64 q]).two
  have Kz : Known _ _ _ #[.int .i64 p, .int .i64 q] := (KR.put 0 (.int .i64 p)).put 1 (.int .i64 q)
  obtain ⟨z0, z1⟩ := Kz.two
  have hs : w.heap.size ≤ w.heap.size := Nat.le_refl _
  replace hb := hb.then_ (below_new0 w1 (.cells #[.int .i64 p, .int .i64 q] 23))
  go_wp2
  exact bodyPost_ret (v := .agg #[.int .i64 p, .int .i64 q]) (by simp [results, Tryd.results27, go_sem, z0, z1]) rfl ⟨rfl, (hb.setCell (p := ⟨w.heap.size, 0, none⟩) hs _).setCell (p := ⟨w.heap.size, 1, none⟩) hs _⟩
end Go.Proofs.YtbddbhamkclndaaDoor
