/-
  The law NumberOperations, walked. Conditions: those typed in each theorem.
-/
import Derived.Test.YtbddbhamkclndaaDoorNumOf
namespace Go.Proofs.YtbddbhamkclndaaDoor
open Go.RowKit

theorem Known.made4 (w : World) (t : TypeId) (cs : Array Value) (o o' o'' : Obj) : Known ((((w.alloc o).alloc o').alloc o'').alloc (.cells cs t)) (w.heap.size + 1 + 1 + 1) t cs := by
  have := Known.made (((w.alloc o).alloc o').alloc o'') t cs
  rw [show (((w.alloc o).alloc o').alloc o'').heap.size = w.heap.size + 1 + 1 + 1 by simp] at this
  exact this
theorem args_two (F : FuncId) (a b c d : Int) (r : Int × Int × Int) (h : Ret F (args2 a b c d) r) : Ret3 F a b c d r.1 r.2.1 r.2.2 := h
set_option maxHeartbeats 4000000 in
theorem law_op0 (a b c d u : Int) (w : World) (i1 : I64 a) (i2 : I64 b) (i3 : I64 c) (i4 : I64 d) (hU : bits BinOp.and IntKind.i64 u 7 = 0) :
    Calls Tryd.prog 11 #[.agg #[.int .i64 a, .int .i64 b], .agg #[.int .i64 c, .int .i64 d], .int .i64 u] w fun e w' => e = .returned (.bool true) ∧ Below w.heap.size w w' := by
  have A1 := args_two _ _ _ _ _ _ (addP_any a b c d i1 i2 i3 i4)
  have A2 := args_two _ _ _ _ _ _ (addR_any a b c d i1 i2 i3 i4)
  generalize addV a b c d = r at *
  obtain ⟨x, y, z⟩ := r
  simp only at A1 A2
  have C1 : RetI 31 a b c d (cmpN a b c d) := fun w => compareP a b c d w i1 i2 i3 i4
  have C2 : RetI 40 a b c d (cmpN a b c d) := fun w => compareR a b c d w i1 i2 i3 i4
  generalize cmpN a b c d = k at *
  unfold RetI at C1 C2
  clear i1 i2 i3 i4
  have hb := (((below_new0 w (.cells #[.int .i64 a, .int .i64 b] 23)).then_ (below_new0 _ (.cells #[.int .i64 c, .int .i64 d] 23))).then_ (below_new0 _ (.cells #[.int .i64 0, .int .i64 0] 23))).then_ (below_new0 _ (.cells #[.int .i64 0, .int .i64 0] 23))
  have KA := (((Known.made w 23 #[.int .i64 a, .int .i64 b]).alloc (.cells #[.int .i64 c, .int .i64 d] 23)).alloc (.cells #[.int .i64 0, .int .i64 0] 23)).alloc (.cells #[.int .i64 0, .int .i64 0] 23)
  have KB := ((Known.made2 w 23 #[.int .i64 c, .int .i64 d] (.cells #[.int .i64 a, .int .i64 b] 23)).alloc (.cells #[.int .i64 0, .int .i64 0] 23)).alloc (.cells #[.int .i64 0, .int .i64 0] 23)
  have KX := (Known.made3 w 23 #[.int .i64 0, .int .i64 0] (.cells #[.int .i64 a, .int .i64 b] 23) (.cells #[.int .i64 c, .int .i64 d] 23)).alloc (.cells #[.int .i64 0, .int .i64 0] 23)
  have KY := Known.made4 w 23 #[.int .i64 0, .int .i64 0] (.cells #[.int .i64 a, .int .i64 b] 23) (.cells #[.int .i64 c, .int .i64 d] 23) (.cells #[.int .i64 0, .int .i64 0] 23)
  have s2 : w.heap.size ≤ w.heap.size + 1 + 1 := by omega
  have s3 : w.heap.size ≤ w.heap.size + 1 + 1 + 1 := by omega
  go_enter Tryd.func11, Tryd.ntmps11
  go_wp2_with fail
  refine (A1 _).mono ?_
  rintro e w1 ⟨rfl, hb1⟩
  replace hb := hb.then_ hb1
  replace KA := KA.on hb1
  replace KB := KB.on hb1
  replace KX := KX.on hb1
  replace KY := KY.on hb1
  have fx0 := KX.free 0
  have fx1 := KX.free 1
  obtain ⟨cx0, cx1⟩ := KX.two
  replace hb := (hb.setCell (p := ⟨w.heap.size + 1 + 1, 0, none⟩) s2 (.int .i64 x)).setCell (p := ⟨w.heap.size + 1 + 1, 1, none⟩) s2 (.int .i64 y)
  replace KA := (KA.far (p := ⟨w.heap.size + 1 + 1, 0, none⟩) (by simp <;> omega) (.int .i64 x)).far (p := ⟨w.heap.size + 1 + 1, 1, none⟩) (by simp <;> omega) (.int .i64 y)
  replace KB := (KB.far (p := ⟨w.heap.size + 1 + 1, 0, none⟩) (by simp <;> omega) (.int .i64 x)).far (p := ⟨w.heap.size + 1 + 1, 1, none⟩) (by simp <;> omega) (.int .i64 y)
  replace KY := (KY.far (p := ⟨w.heap.size + 1 + 1, 0, none⟩) (by simp <;> omega) (.int .i64 x)).far (p := ⟨w.heap.size + 1 + 1, 1, none⟩) (by simp <;> omega) (.int .i64 y)
  replace KX : Known _ _ _ #[.int .i64 x, .int .i64 y] := (KX.put 0 (.int .i64 x)).put 1 (.int .i64 y)
  obtain ⟨ca0, ca1⟩ := KA.two
  obtain ⟨cb0, cb1⟩ := KB.two
  go_wp2_with fail
  refine (A2 _).mono ?_
  rintro e w2 ⟨rfl, hb2⟩
  replace hb := hb.then_ hb2
  replace KA := KA.on hb2
  replace KB := KB.on hb2
  replace KX := KX.on hb2
  replace KY := KY.on hb2
  clear ca0 ca1 cb0 cb1 cx0 cx1 fx0 fx1
  have fy0 := KY.free 0
  have fy1 := KY.free 1
  obtain ⟨cy0, cy1⟩ := KY.two
  replace hb := (hb.setCell (p := ⟨w.heap.size + 1 + 1 + 1, 0, none⟩) s3 (.int .i64 x)).setCell (p := ⟨w.heap.size + 1 + 1 + 1, 1, none⟩) s3 (.int .i64 y)
  replace KA := (KA.far (p := ⟨w.heap.size + 1 + 1 + 1, 0, none⟩) (by simp <;> omega) (.int .i64 x)).far (p := ⟨w.heap.size + 1 + 1 + 1, 1, none⟩) (by simp <;> omega) (.int .i64 y)
  replace KB := (KB.far (p := ⟨w.heap.size + 1 + 1 + 1, 0, none⟩) (by simp <;> omega) (.int .i64 x)).far (p := ⟨w.heap.size + 1 + 1 + 1, 1, none⟩) (by simp <;> omega) (.int .i64 y)
  replace KX := (KX.far (p := ⟨w.heap.size + 1 + 1 + 1, 0, none⟩) (by simp <;> omega) (.int .i64 x)).far (p := ⟨w.heap.size + 1 + 1 + 1, 1, none⟩) (by simp <;> omega) (.int .i64 y)
  replace KY : Known _ _ _ #[.int .i64 x, .int .i64 y] := (KY.put 0 (.int .i64 x)).put 1 (.int .i64 y)
  go_wp2_with fail
  generalize (w2.setCell ⟨w.heap.size + 1 + 1 + 1, 0, none⟩ (.int .i64 x)).setCell ⟨w.heap.size + 1 + 1 + 1, 1, none⟩ (.int .i64 y) = w3 at *
  obtain ⟨ca0, ca1⟩ := KA.two
  obtain ⟨cb0, cb1⟩ := KB.two
  obtain ⟨cx0, cx1⟩ := KX.two
  obtain ⟨cz0, cz1⟩ := KY.two
  have la := KA.lt
  have lb := KB.lt
  have lx := KX.lt
  have ly := KY.lt
  clear A1 A2 KA KB KX KY
  refine wp_region_gr (by kernel_rfl) (by kernel_rfl) ?_
  repeat (go_big_quiet_step (first | (go_at_call 31; with_reducible exact gr_call (C1 _)) | (go_at_call 40; with_reducible exact gr_call (C2 _)) | (go_at_call 18; exact gr_call (known_any _))))
  refine wpQuiet_nil ?_
  intro _ hw'; obtain ⟨w5, hw''⟩ := hw'; subst hw''
  have hB := gr_below w3 w5
  generalize gr w3 w5 = w4 at *
  go_wp2
  go_ret
  exact ⟨rfl, hb.then_ hB⟩
set_option maxHeartbeats 4000000 in
theorem law_op1 (a b c d u : Int) (w : World) (i1 : I64 a) (i2 : I64 b) (i3 : I64 c) (i4 : I64 d) (hU : bits BinOp.and IntKind.i64 u 7 = 1) :
    Calls Tryd.prog 11 #[.agg #[.int .i64 a, .int .i64 b], .agg #[.int .i64 c, .int .i64 d], .int .i64 u] w fun e w' => e = .returned (.bool true) ∧ Below w.heap.size w w' := by
  have A1 := args_two _ _ _ _ _ _ (subP_any a b c d i1 i2 i3 i4)
  have A2 := args_two _ _ _ _ _ _ (subR_any a b c d i1 i2 i3 i4)
  generalize subV a b c d = r at *
  obtain ⟨x, y, z⟩ := r
  simp only at A1 A2
  have C1 : RetI 31 a b c d (cmpN a b c d) := fun w => compareP a b c d w i1 i2 i3 i4
  have C2 : RetI 40 a b c d (cmpN a b c d) := fun w => compareR a b c d w i1 i2 i3 i4
  generalize cmpN a b c d = k at *
  unfold RetI at C1 C2
  clear i1 i2 i3 i4
  have hb := (((below_new0 w (.cells #[.int .i64 a, .int .i64 b] 23)).then_ (below_new0 _ (.cells #[.int .i64 c, .int .i64 d] 23))).then_ (below_new0 _ (.cells #[.int .i64 0, .int .i64 0] 23))).then_ (below_new0 _ (.cells #[.int .i64 0, .int .i64 0] 23))
  have KA := (((Known.made w 23 #[.int .i64 a, .int .i64 b]).alloc (.cells #[.int .i64 c, .int .i64 d] 23)).alloc (.cells #[.int .i64 0, .int .i64 0] 23)).alloc (.cells #[.int .i64 0, .int .i64 0] 23)
  have KB := ((Known.made2 w 23 #[.int .i64 c, .int .i64 d] (.cells #[.int .i64 a, .int .i64 b] 23)).alloc (.cells #[.int .i64 0, .int .i64 0] 23)).alloc (.cells #[.int .i64 0, .int .i64 0] 23)
  have KX := (Known.made3 w 23 #[.int .i64 0, .int .i64 0] (.cells #[.int .i64 a, .int .i64 b] 23) (.cells #[.int .i64 c, .int .i64 d] 23)).alloc (.cells #[.int .i64 0, .int .i64 0] 23)
  have KY := Known.made4 w 23 #[.int .i64 0, .int .i64 0] (.cells #[.int .i64 a, .int .i64 b] 23) (.cells #[.int .i64 c, .int .i64 d] 23) (.cells #[.int .i64 0, .int .i64 0] 23)
  have s2 : w.heap.size ≤ w.heap.size + 1 + 1 := by omega
  have s3 : w.heap.size ≤ w.heap.size + 1 + 1 + 1 := by omega
  go_enter Tryd.func11, Tryd.ntmps11
  go_wp2_with fail
  refine (A1 _).mono ?_
  rintro e w1 ⟨rfl, hb1⟩
  replace hb := hb.then_ hb1
  replace KA := KA.on hb1
  replace KB := KB.on hb1
  replace KX := KX.on hb1
  replace KY := KY.on hb1
  have fx0 := KX.free 0
  have fx1 := KX.free 1
  obtain ⟨cx0, cx1⟩ := KX.two
  replace hb := (hb.setCell (p := ⟨w.heap.size + 1 + 1, 0, none⟩) s2 (.int .i64 x)).setCell (p := ⟨w.heap.size + 1 + 1, 1, none⟩) s2 (.int .i64 y)
  replace KA := (KA.far (p := ⟨w.heap.size + 1 + 1, 0, none⟩) (by simp <;> omega) (.int .i64 x)).far (p := ⟨w.heap.size + 1 + 1, 1, none⟩) (by simp <;> omega) (.int .i64 y)
  replace KB := (KB.far (p := ⟨w.heap.size + 1 + 1, 0, none⟩) (by simp <;> omega) (.int .i64 x)).far (p := ⟨w.heap.size + 1 + 1, 1, none⟩) (by simp <;> omega) (.int .i64 y)
  replace KY := (KY.far (p := ⟨w.heap.size + 1 + 1, 0, none⟩) (by simp <;> omega) (.int .i64 x)).far (p := ⟨w.heap.size + 1 + 1, 1, none⟩) (by simp <;> omega) (.int .i64 y)
  replace KX : Known _ _ _ #[.int .i64 x, .int .i64 y] := (KX.put 0 (.int .i64 x)).put 1 (.int .i64 y)
  obtain ⟨ca0, ca1⟩ := KA.two
  obtain ⟨cb0, cb1⟩ := KB.two
  go_wp2_with fail
  refine (A2 _).mono ?_
  rintro e w2 ⟨rfl, hb2⟩
  replace hb := hb.then_ hb2
  replace KA := KA.on hb2
  replace KB := KB.on hb2
  replace KX := KX.on hb2
  replace KY := KY.on hb2
  clear ca0 ca1 cb0 cb1 cx0 cx1 fx0 fx1
  have fy0 := KY.free 0
  have fy1 := KY.free 1
  obtain ⟨cy0, cy1⟩ := KY.two
  replace hb := (hb.setCell (p := ⟨w.heap.size + 1 + 1 + 1, 0, none⟩) s3 (.int .i64 x)).setCell (p := ⟨w.heap.size + 1 + 1 + 1, 1, none⟩) s3 (.int .i64 y)
  replace KA := (KA.far (p := ⟨w.heap.size + 1 + 1 + 1, 0, none⟩) (by simp <;> omega) (.int .i64 x)).far (p := ⟨w.heap.size + 1 + 1 + 1, 1, none⟩) (by simp <;> omega) (.int .i64 y)
  replace KB := (KB.far (p := ⟨w.heap.size + 1 + 1 + 1, 0, none⟩) (by simp <;> omega) (.int .i64 x)).far (p := ⟨w.heap.size + 1 + 1 + 1, 1, none⟩) (by simp <;> omega) (.int .i64 y)
  replace KX := (KX.far (p := ⟨w.heap.size + 1 + 1 + 1, 0, none⟩) (by simp <;> omega) (.int .i64 x)).far (p := ⟨w.heap.size + 1 + 1 + 1, 1, none⟩) (by simp <;> omega) (.int .i64 y)
  replace KY : Known _ _ _ #[.int .i64 x, .int .i64 y] := (KY.put 0 (.int .i64 x)).put 1 (.int .i64 y)
  go_wp2_with fail
  generalize (w2.setCell ⟨w.heap.size + 1 + 1 + 1, 0, none⟩ (.int .i64 x)).setCell ⟨w.heap.size + 1 + 1 + 1, 1, none⟩ (.int .i64 y) = w3 at *
  obtain ⟨ca0, ca1⟩ := KA.two
  obtain ⟨cb0, cb1⟩ := KB.two
  obtain ⟨cx0, cx1⟩ := KX.two
  obtain ⟨cz0, cz1⟩ := KY.two
  have la := KA.lt
  have lb := KB.lt
  have lx := KX.lt
  have ly := KY.lt
  clear A1 A2 KA KB KX KY
  refine wp_region_gr (by kernel_rfl) (by kernel_rfl) ?_
  repeat (go_big_quiet_step (first | (go_at_call 31; with_reducible exact gr_call (C1 _)) | (go_at_call 40; with_reducible exact gr_call (C2 _)) | (go_at_call 18; exact gr_call (known_any _))))
  refine wpQuiet_nil ?_
  intro _ hw'; obtain ⟨w5, hw''⟩ := hw'; subst hw''
  have hB := gr_below w3 w5
  generalize gr w3 w5 = w4 at *
  go_wp2
  go_ret
  exact ⟨rfl, hb.then_ hB⟩
set_option maxHeartbeats 4000000 in
theorem law_op2 (a b c d u : Int) (w : World) (i1 : I64 a) (i2 : I64 b) (i3 : I64 c) (i4 : I64 d) (hU : bits BinOp.and IntKind.i64 u 7 = 2) :
    Calls Tryd.prog 11 #[.agg #[.int .i64 a, .int .i64 b], .agg #[.int .i64 c, .int .i64 d], .int .i64 u] w fun e w' => e = .returned (.bool true) ∧ Below w.heap.size w w' := by
  have A1 := args_two _ _ _ _ _ _ (mulP_any a b c d i1 i2 i3 i4)
  have A2 := args_two _ _ _ _ _ _ (mulR_any a b c d i1 i2 i3 i4)
  generalize mulV a b c d = r at *
  obtain ⟨x, y, z⟩ := r
  simp only at A1 A2
  have C1 : RetI 31 a b c d (cmpN a b c d) := fun w => compareP a b c d w i1 i2 i3 i4
  have C2 : RetI 40 a b c d (cmpN a b c d) := fun w => compareR a b c d w i1 i2 i3 i4
  generalize cmpN a b c d = k at *
  unfold RetI at C1 C2
  clear i1 i2 i3 i4
  have hb := (((below_new0 w (.cells #[.int .i64 a, .int .i64 b] 23)).then_ (below_new0 _ (.cells #[.int .i64 c, .int .i64 d] 23))).then_ (below_new0 _ (.cells #[.int .i64 0, .int .i64 0] 23))).then_ (below_new0 _ (.cells #[.int .i64 0, .int .i64 0] 23))
  have KA := (((Known.made w 23 #[.int .i64 a, .int .i64 b]).alloc (.cells #[.int .i64 c, .int .i64 d] 23)).alloc (.cells #[.int .i64 0, .int .i64 0] 23)).alloc (.cells #[.int .i64 0, .int .i64 0] 23)
  have KB := ((Known.made2 w 23 #[.int .i64 c, .int .i64 d] (.cells #[.int .i64 a, .int .i64 b] 23)).alloc (.cells #[.int .i64 0, .int .i64 0] 23)).alloc (.cells #[.int .i64 0, .int .i64 0] 23)
  have KX := (Known.made3 w 23 #[.int .i64 0, .int .i64 0] (.cells #[.int .i64 a, .int .i64 b] 23) (.cells #[.int .i64 c, .int .i64 d] 23)).alloc (.cells #[.int .i64 0, .int .i64 0] 23)
  have KY := Known.made4 w 23 #[.int .i64 0, .int .i64 0] (.cells #[.int .i64 a, .int .i64 b] 23) (.cells #[.int .i64 c, .int .i64 d] 23) (.cells #[.int .i64 0, .int .i64 0] 23)
  have s2 : w.heap.size ≤ w.heap.size + 1 + 1 := by omega
  have s3 : w.heap.size ≤ w.heap.size + 1 + 1 + 1 := by omega
  go_enter Tryd.func11, Tryd.ntmps11
  go_wp2_with fail
  refine (A1 _).mono ?_
  rintro e w1 ⟨rfl, hb1⟩
  replace hb := hb.then_ hb1
  replace KA := KA.on hb1
  replace KB := KB.on hb1
  replace KX := KX.on hb1
  replace KY := KY.on hb1
  have fx0 := KX.free 0
  have fx1 := KX.free 1
  obtain ⟨cx0, cx1⟩ := KX.two
  replace hb := (hb.setCell (p := ⟨w.heap.size + 1 + 1, 0, none⟩) s2 (.int .i64 x)).setCell (p := ⟨w.heap.size + 1 + 1, 1, none⟩) s2 (.int .i64 y)
  replace KA := (KA.far (p := ⟨w.heap.size + 1 + 1, 0, none⟩) (by simp <;> omega) (.int .i64 x)).far (p := ⟨w.heap.size + 1 + 1, 1, none⟩) (by simp <;> omega) (.int .i64 y)
  replace KB := (KB.far (p := ⟨w.heap.size + 1 + 1, 0, none⟩) (by simp <;> omega) (.int .i64 x)).far (p := ⟨w.heap.size + 1 + 1, 1, none⟩) (by simp <;> omega) (.int .i64 y)
  replace KY := (KY.far (p := ⟨w.heap.size + 1 + 1, 0, none⟩) (by simp <;> omega) (.int .i64 x)).far (p := ⟨w.heap.size + 1 + 1, 1, none⟩) (by simp <;> omega) (.int .i64 y)
  replace KX : Known _ _ _ #[.int .i64 x, .int .i64 y] := (KX.put 0 (.int .i64 x)).put 1 (.int .i64 y)
  obtain ⟨ca0, ca1⟩ := KA.two
  obtain ⟨cb0, cb1⟩ := KB.two
  go_wp2_with fail
  refine (A2 _).mono ?_
  rintro e w2 ⟨rfl, hb2⟩
  replace hb := hb.then_ hb2
  replace KA := KA.on hb2
  replace KB := KB.on hb2
  replace KX := KX.on hb2
  replace KY := KY.on hb2
  clear ca0 ca1 cb0 cb1 cx0 cx1 fx0 fx1
  have fy0 := KY.free 0
  have fy1 := KY.free 1
  obtain ⟨cy0, cy1⟩ := KY.two
  replace hb := (hb.setCell (p := ⟨w.heap.size + 1 + 1 + 1, 0, none⟩) s3 (.int .i64 x)).setCell (p := ⟨w.heap.size + 1 + 1 + 1, 1, none⟩) s3 (.int .i64 y)
  replace KA := (KA.far (p := ⟨w.heap.size + 1 + 1 + 1, 0, none⟩) (by simp <;> omega) (.int .i64 x)).far (p := ⟨w.heap.size + 1 + 1 + 1, 1, none⟩) (by simp <;> omega) (.int .i64 y)
  replace KB := (KB.far (p := ⟨w.heap.size + 1 + 1 + 1, 0, none⟩) (by simp <;> omega) (.int .i64 x)).far (p := ⟨w.heap.size + 1 + 1 + 1, 1, none⟩) (by simp <;> omega) (.int .i64 y)
  replace KX := (KX.far (p := ⟨w.heap.size + 1 + 1 + 1, 0, none⟩) (by simp <;> omega) (.int .i64 x)).far (p := ⟨w.heap.size + 1 + 1 + 1, 1, none⟩) (by simp <;> omega) (.int .i64 y)
  replace KY : Known _ _ _ #[.int .i64 x, .int .i64 y] := (KY.put 0 (.int .i64 x)).put 1 (.int .i64 y)
  go_wp2_with fail
  generalize (w2.setCell ⟨w.heap.size + 1 + 1 + 1, 0, none⟩ (.int .i64 x)).setCell ⟨w.heap.size + 1 + 1 + 1, 1, none⟩ (.int .i64 y) = w3 at *
  obtain ⟨ca0, ca1⟩ := KA.two
  obtain ⟨cb0, cb1⟩ := KB.two
  obtain ⟨cx0, cx1⟩ := KX.two
  obtain ⟨cz0, cz1⟩ := KY.two
  have la := KA.lt
  have lb := KB.lt
  have lx := KX.lt
  have ly := KY.lt
  clear A1 A2 KA KB KX KY
  refine wp_region_gr (by kernel_rfl) (by kernel_rfl) ?_
  repeat (go_big_quiet_step (first | (go_at_call 31; with_reducible exact gr_call (C1 _)) | (go_at_call 40; with_reducible exact gr_call (C2 _)) | (go_at_call 18; exact gr_call (known_any _))))
  refine wpQuiet_nil ?_
  intro _ hw'; obtain ⟨w5, hw''⟩ := hw'; subst hw''
  have hB := gr_below w3 w5
  generalize gr w3 w5 = w4 at *
  go_wp2
  go_ret
  exact ⟨rfl, hb.then_ hB⟩
set_option maxHeartbeats 4000000 in
theorem law_op3 (a b c d u : Int) (w : World) (i1 : I64 a) (i2 : I64 b) (i3 : I64 c) (i4 : I64 d) (hU : bits BinOp.and IntKind.i64 u 7 = 3) :
    Calls Tryd.prog 11 #[.agg #[.int .i64 a, .int .i64 b], .agg #[.int .i64 c, .int .i64 d], .int .i64 u] w fun e w' => e = .returned (.bool true) ∧ Below w.heap.size w w' := by
  have A1 := args_two _ _ _ _ _ _ (divP_any a b c d i1 i2 i3 i4)
  have A2 := args_two _ _ _ _ _ _ (divR_any a b c d i1 i2 i3 i4)
  generalize divV a b c d = r at *
  obtain ⟨x, y, z⟩ := r
  simp only at A1 A2
  have C1 : RetI 31 a b c d (cmpN a b c d) := fun w => compareP a b c d w i1 i2 i3 i4
  have C2 : RetI 40 a b c d (cmpN a b c d) := fun w => compareR a b c d w i1 i2 i3 i4
  generalize cmpN a b c d = k at *
  unfold RetI at C1 C2
  clear i1 i2 i3 i4
  have hb := (((below_new0 w (.cells #[.int .i64 a, .int .i64 b] 23)).then_ (below_new0 _ (.cells #[.int .i64 c, .int .i64 d] 23))).then_ (below_new0 _ (.cells #[.int .i64 0, .int .i64 0] 23))).then_ (below_new0 _ (.cells #[.int .i64 0, .int .i64 0] 23))
  have KA := (((Known.made w 23 #[.int .i64 a, .int .i64 b]).alloc (.cells #[.int .i64 c, .int .i64 d] 23)).alloc (.cells #[.int .i64 0, .int .i64 0] 23)).alloc (.cells #[.int .i64 0, .int .i64 0] 23)
  have KB := ((Known.made2 w 23 #[.int .i64 c, .int .i64 d] (.cells #[.int .i64 a, .int .i64 b] 23)).alloc (.cells #[.int .i64 0, .int .i64 0] 23)).alloc (.cells #[.int .i64 0, .int .i64 0] 23)
  have KX := (Known.made3 w 23 #[.int .i64 0, .int .i64 0] (.cells #[.int .i64 a, .int .i64 b] 23) (.cells #[.int .i64 c, .int .i64 d] 23)).alloc (.cells #[.int .i64 0, .int .i64 0] 23)
  have KY := Known.made4 w 23 #[.int .i64 0, .int .i64 0] (.cells #[.int .i64 a, .int .i64 b] 23) (.cells #[.int .i64 c, .int .i64 d] 23) (.cells #[.int .i64 0, .int .i64 0] 23)
  have s2 : w.heap.size ≤ w.heap.size + 1 + 1 := by omega
  have s3 : w.heap.size ≤ w.heap.size + 1 + 1 + 1 := by omega
  go_enter Tryd.func11, Tryd.ntmps11
  go_wp2_with fail
  refine (A1 _).mono ?_
  rintro e w1 ⟨rfl, hb1⟩
  replace hb := hb.then_ hb1
  replace KA := KA.on hb1
  replace KB := KB.on hb1
  replace KX := KX.on hb1
  replace KY := KY.on hb1
  have fx0 := KX.free 0
  have fx1 := KX.free 1
  obtain ⟨cx0, cx1⟩ := KX.two
  replace hb := (hb.setCell (p := ⟨w.heap.size + 1 + 1, 0, none⟩) s2 (.int .i64 x)).setCell (p := ⟨w.heap.size + 1 + 1, 1, none⟩) s2 (.int .i64 y)
  replace KA := (KA.far (p := ⟨w.heap.size + 1 + 1, 0, none⟩) (by simp <;> omega) (.int .i64 x)).far (p := ⟨w.heap.size + 1 + 1, 1, none⟩) (by simp <;> omega) (.int .i64 y)
  replace KB := (KB.far (p := ⟨w.heap.size + 1 + 1, 0, none⟩) (by simp <;> omega) (.int .i64 x)).far (p := ⟨w.heap.size + 1 + 1, 1, none⟩) (by simp <;> omega) (.int .i64 y)
  replace KY := (KY.far (p := ⟨w.heap.size + 1 + 1, 0, none⟩) (by simp <;> omega) (.int .i64 x)).far (p := ⟨w.heap.size + 1 + 1, 1, none⟩) (by simp <;> omega) (.int .i64 y)
  replace KX : Known _ _ _ #[.int .i64 x, .int .i64 y] := (KX.put 0 (.int .i64 x)).put 1 (.int .i64 y)
  obtain ⟨ca0, ca1⟩ := KA.two
  obtain ⟨cb0, cb1⟩ := KB.two
  go_wp2_with fail
  refine (A2 _).mono ?_
  rintro e w2 ⟨rfl, hb2⟩
  replace hb := hb.then_ hb2
  replace KA := KA.on hb2
  replace KB := KB.on hb2
  replace KX := KX.on hb2
  replace KY := KY.on hb2
  clear ca0 ca1 cb0 cb1 cx0 cx1 fx0 fx1
  have fy0 := KY.free 0
  have fy1 := KY.free 1
  obtain ⟨cy0, cy1⟩ := KY.two
  replace hb := (hb.setCell (p := ⟨w.heap.size + 1 + 1 + 1, 0, none⟩) s3 (.int .i64 x)).setCell (p := ⟨w.heap.size + 1 + 1 + 1, 1, none⟩) s3 (.int .i64 y)
  replace KA := (KA.far (p := ⟨w.heap.size + 1 + 1 + 1, 0, none⟩) (by simp <;> omega) (.int .i64 x)).far (p := ⟨w.heap.size + 1 + 1 + 1, 1, none⟩) (by simp <;> omega) (.int .i64 y)
  replace KB := (KB.far (p := ⟨w.heap.size + 1 + 1 + 1, 0, none⟩) (by simp <;> omega) (.int .i64 x)).far (p := ⟨w.heap.size + 1 + 1 + 1, 1, none⟩) (by simp <;> omega) (.int .i64 y)
  replace KX := (KX.far (p := ⟨w.heap.size + 1 + 1 + 1, 0, none⟩) (by simp <;> omega) (.int .i64 x)).far (p := ⟨w.heap.size + 1 + 1 + 1, 1, none⟩) (by simp <;> omega) (.int .i64 y)
  replace KY : Known _ _ _ #[.int .i64 x, .int .i64 y] := (KY.put 0 (.int .i64 x)).put 1 (.int .i64 y)
  go_wp2_with fail
  generalize (w2.setCell ⟨w.heap.size + 1 + 1 + 1, 0, none⟩ (.int .i64 x)).setCell ⟨w.heap.size + 1 + 1 + 1, 1, none⟩ (.int .i64 y) = w3 at *
  obtain ⟨ca0, ca1⟩ := KA.two
  obtain ⟨cb0, cb1⟩ := KB.two
  obtain ⟨cx0, cx1⟩ := KX.two
  obtain ⟨cz0, cz1⟩ := KY.two
  have la := KA.lt
  have lb := KB.lt
  have lx := KX.lt
  have ly := KY.lt
  clear A1 A2 KA KB KX KY
  refine wp_region_gr (by kernel_rfl) (by kernel_rfl) ?_
  repeat (go_big_quiet_step (first | (go_at_call 31; with_reducible exact gr_call (C1 _)) | (go_at_call 40; with_reducible exact gr_call (C2 _)) | (go_at_call 18; exact gr_call (known_any _))))
  refine wpQuiet_nil ?_
  intro _ hw'; obtain ⟨w5, hw''⟩ := hw'; subst hw''
  have hB := gr_below w3 w5
  generalize gr w3 w5 = w4 at *
  go_wp2
  go_ret
  exact ⟨rfl, hb.then_ hB⟩
set_option maxHeartbeats 4000000 in
theorem law_op4 (a b c d u : Int) (w : World) (i1 : I64 a) (i2 : I64 b) (i3 : I64 c) (i4 : I64 d) (v : Int) (h4 : 4 ≤ v) (hU : bits BinOp.and IntKind.i64 u 7 = v) :
    Calls Tryd.prog 11 #[.agg #[.int .i64 a, .int .i64 b], .agg #[.int .i64 c, .int .i64 d], .int .i64 u] w fun e w' => e = .returned (.bool true) ∧ Below w.heap.size w w' := by
  have A1 := args_two _ _ _ _ _ _ (modP_any a b c d i1 i2 i3 i4)
  have A2 := args_two _ _ _ _ _ _ (modR_any a b c d i1 i2 i3 i4)
  generalize modV a b c d = r at *
  obtain ⟨x, y, z⟩ := r
  simp only at A1 A2
  have C1 : RetI 31 a b c d (cmpN a b c d) := fun w => compareP a b c d w i1 i2 i3 i4
  have C2 : RetI 40 a b c d (cmpN a b c d) := fun w => compareR a b c d w i1 i2 i3 i4
  generalize cmpN a b c d = k at *
  unfold RetI at C1 C2
  clear i1 i2 i3 i4
  have g0 : (v == 0) = false := by simp; omega
  have g1 : (v == 1) = false := by simp; omega
  have g2 : (v == 2) = false := by simp; omega
  have g3 : (v == 3) = false := by simp; omega
  clear h4
  have hb := (((below_new0 w (.cells #[.int .i64 a, .int .i64 b] 23)).then_ (below_new0 _ (.cells #[.int .i64 c, .int .i64 d] 23))).then_ (below_new0 _ (.cells #[.int .i64 0, .int .i64 0] 23))).then_ (below_new0 _ (.cells #[.int .i64 0, .int .i64 0] 23))
  have KA := (((Known.made w 23 #[.int .i64 a, .int .i64 b]).alloc (.cells #[.int .i64 c, .int .i64 d] 23)).alloc (.cells #[.int .i64 0, .int .i64 0] 23)).alloc (.cells #[.int .i64 0, .int .i64 0] 23)
  have KB := ((Known.made2 w 23 #[.int .i64 c, .int .i64 d] (.cells #[.int .i64 a, .int .i64 b] 23)).alloc (.cells #[.int .i64 0, .int .i64 0] 23)).alloc (.cells #[.int .i64 0, .int .i64 0] 23)
  have KX := (Known.made3 w 23 #[.int .i64 0, .int .i64 0] (.cells #[.int .i64 a, .int .i64 b] 23) (.cells #[.int .i64 c, .int .i64 d] 23)).alloc (.cells #[.int .i64 0, .int .i64 0] 23)
  have KY := Known.made4 w 23 #[.int .i64 0, .int .i64 0] (.cells #[.int .i64 a, .int .i64 b] 23) (.cells #[.int .i64 c, .int .i64 d] 23) (.cells #[.int .i64 0, .int .i64 0] 23)
  have s2 : w.heap.size ≤ w.heap.size + 1 + 1 := by omega
  have s3 : w.heap.size ≤ w.heap.size + 1 + 1 + 1 := by omega
  go_enter Tryd.func11, Tryd.ntmps11
  go_wp2_with fail
  refine (A1 _).mono ?_
  rintro e w1 ⟨rfl, hb1⟩
  replace hb := hb.then_ hb1
  replace KA := KA.on hb1
  replace KB := KB.on hb1
  replace KX := KX.on hb1
  replace KY := KY.on hb1
  have fx0 := KX.free 0
  have fx1 := KX.free 1
  obtain ⟨cx0, cx1⟩ := KX.two
  replace hb := (hb.setCell (p := ⟨w.heap.size + 1 + 1, 0, none⟩) s2 (.int .i64 x)).setCell (p := ⟨w.heap.size + 1 + 1, 1, none⟩) s2 (.int .i64 y)
  replace KA := (KA.far (p := ⟨w.heap.size + 1 + 1, 0, none⟩) (by simp <;> omega) (.int .i64 x)).far (p := ⟨w.heap.size + 1 + 1, 1, none⟩) (by simp <;> omega) (.int .i64 y)
  replace KB := (KB.far (p := ⟨w.heap.size + 1 + 1, 0, none⟩) (by simp <;> omega) (.int .i64 x)).far (p := ⟨w.heap.size + 1 + 1, 1, none⟩) (by simp <;> omega) (.int .i64 y)
  replace KY := (KY.far (p := ⟨w.heap.size + 1 + 1, 0, none⟩) (by simp <;> omega) (.int .i64 x)).far (p := ⟨w.heap.size + 1 + 1, 1, none⟩) (by simp <;> omega) (.int .i64 y)
  replace KX : Known _ _ _ #[.int .i64 x, .int .i64 y] := (KX.put 0 (.int .i64 x)).put 1 (.int .i64 y)
  obtain ⟨ca0, ca1⟩ := KA.two
  obtain ⟨cb0, cb1⟩ := KB.two
  go_wp2_with fail
  refine (A2 _).mono ?_
  rintro e w2 ⟨rfl, hb2⟩
  replace hb := hb.then_ hb2
  replace KA := KA.on hb2
  replace KB := KB.on hb2
  replace KX := KX.on hb2
  replace KY := KY.on hb2
  clear ca0 ca1 cb0 cb1 cx0 cx1 fx0 fx1
  have fy0 := KY.free 0
  have fy1 := KY.free 1
  obtain ⟨cy0, cy1⟩ := KY.two
  replace hb := (hb.setCell (p := ⟨w.heap.size + 1 + 1 + 1, 0, none⟩) s3 (.int .i64 x)).setCell (p := ⟨w.heap.size + 1 + 1 + 1, 1, none⟩) s3 (.int .i64 y)
  replace KA := (KA.far (p := ⟨w.heap.size + 1 + 1 + 1, 0, none⟩) (by simp <;> omega) (.int .i64 x)).far (p := ⟨w.heap.size + 1 + 1 + 1, 1, none⟩) (by simp <;> omega) (.int .i64 y)
  replace KB := (KB.far (p := ⟨w.heap.size + 1 + 1 + 1, 0, none⟩) (by simp <;> omega) (.int .i64 x)).far (p := ⟨w.heap.size + 1 + 1 + 1, 1, none⟩) (by simp <;> omega) (.int .i64 y)
  replace KX := (KX.far (p := ⟨w.heap.size + 1 + 1 + 1, 0, none⟩) (by simp <;> omega) (.int .i64 x)).far (p := ⟨w.heap.size + 1 + 1 + 1, 1, none⟩) (by simp <;> omega) (.int .i64 y)
  replace KY : Known _ _ _ #[.int .i64 x, .int .i64 y] := (KY.put 0 (.int .i64 x)).put 1 (.int .i64 y)
  go_wp2_with fail
  generalize (w2.setCell ⟨w.heap.size + 1 + 1 + 1, 0, none⟩ (.int .i64 x)).setCell ⟨w.heap.size + 1 + 1 + 1, 1, none⟩ (.int .i64 y) = w3 at *
  obtain ⟨ca0, ca1⟩ := KA.two
  obtain ⟨cb0, cb1⟩ := KB.two
  obtain ⟨cx0, cx1⟩ := KX.two
  obtain ⟨cz0, cz1⟩ := KY.two
  have la := KA.lt
  have lb := KB.lt
  have lx := KX.lt
  have ly := KY.lt
  clear A1 A2 KA KB KX KY
  refine wp_region_gr (by kernel_rfl) (by kernel_rfl) ?_
  repeat (go_big_quiet_step (first | (go_at_call 31; with_reducible exact gr_call (C1 _)) | (go_at_call 40; with_reducible exact gr_call (C2 _)) | (go_at_call 18; exact gr_call (known_any _))))
  refine wpQuiet_nil ?_
  intro _ hw'; obtain ⟨w5, hw''⟩ := hw'; subst hw''
  have hB := gr_below w3 w5
  generalize gr w3 w5 = w4 at *
  go_wp2
  go_ret
  exact ⟨rfl, hb.then_ hB⟩
theorem law_operations (a b c d u : Int) (w : World) (i1 : I64 a) (i2 : I64 b) (i3 : I64 c) (i4 : I64 d) :
    Calls Tryd.prog 11 #[.agg #[.int .i64 a, .int .i64 b], .agg #[.int .i64 c, .int .i64 d], .int .i64 u] w fun e w' => e = .returned (.bool true) ∧ Below w.heap.size w w' := by
  have hm : bits BinOp.and IntKind.i64 u 7 = u % 8 := mask_i64 3 (by decide) u _ (by decide)
  have h0 : 0 ≤ u % 8 := by omega
  by_cases g0 : u % 8 = 0
  · exact law_op0 a b c d u w i1 i2 i3 i4 (by omega)
  by_cases g1 : u % 8 = 1
  · exact law_op1 a b c d u w i1 i2 i3 i4 (by omega)
  by_cases g2 : u % 8 = 2
  · exact law_op2 a b c d u w i1 i2 i3 i4 (by omega)
  by_cases g3 : u % 8 = 3
  · exact law_op3 a b c d u w i1 i2 i3 i4 (by omega)
  exact law_op4 a b c d u w i1 i2 i3 i4 (u % 8) (by omega) hm
end Go.Proofs.YtbddbhamkclndaaDoor
