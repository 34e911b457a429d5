/-
  The claim's own texts, packed. Conditions: those typed in each theorem.
-/
import Derived.Test.YtcklofamaooegaaGreatDoorZKaap
set_option maxHeartbeats 4000000
set_option maxRecDepth 10000
set_option linter.unusedVariables false
namespace Go.Proofs.YtcklofamaooegaaGreatDoor
open Go.RowKit
inductive Val : Form.Tree → Int × Int × Int → Prop where
 | num {t : ByteArray} {r : Int × Int × Int} (h : Ret 112 #[.string t] r) (hv : r.2.2 = 0 → Num.val r.1 r.2.1 = true) : Val (.num t) r
 | un {op : ByteArray} {a : Form.Tree} {r : Int × Int × Int} (hop : ¬ op = ⟨#[]⟩) (h : Val a r) : Val (.un op a) (if r.2.2 = 0 then signV op r.1 r.2.1 else (0, 0, r.2.2))
 | bin {op : ByteArray} {a b : Form.Tree} {r s : Int × Int × Int} (hop : ¬ op = ⟨#[]⟩) (h : Val a r) (k : Val b s) :
   Val (.bin op a b) (if r.2.2 = 0 then (if s.2.2 = 0 then applyV op r.1 r.2.1 s.1 s.2.1 else (0, 0, s.2.2)) else (0, 0, r.2.2))
theorem val_truth (b : Bool) : Num.val (truthV b) 1 = true := by cases b <;> decide
theorem mk_ok {n d : Int} (h : mkE n d = 0) : Num.val (mkN n d) (mkD n d) = true := by
 unfold mkN mkD
 unfold mkE at h
 by_cases hb : mkB n d = true
 ·rw [if_pos hb] at h ⊢
  rw [if_pos hb]
  have hd : d ≠ 0 := by
   unfold mkB at hb
   simp at hb
   omega
  exact (Num.red_ok hd h).1
 ·rw [if_neg hb] at h
  split at h <;> omega
def OkV (x : Int × Int × Int) : Prop := x.2.2 = 0 → Num.val x.1 x.2.1 = true
theorem ok_ite {p : Prop} [Decidable p] {x y : Int × Int × Int} (hx : p → OkV x) (hy : OkV y) : OkV (if p then x else y) := by
 by_cases h : p
 ·rw [if_pos h]; exact hx h
 ·rw [if_neg h]; exact hy
theorem ok_err {e : Int} (h : e ≠ 0) : OkV (0, 0, e) := fun h0 => absurd h0 h
theorem ok_truth (b : Bool) : OkV (truthV b, 1, 0) := fun _ => val_truth b
theorem opV_val {z : Bool} {n m a b c d : Int} (v1 : Num.val a b = true) (v2 : Num.val c d = true) (hm : z = false ∨ c ≠ 0 → m ≠ 0) : OkV (opV z n m a b c d) := by
 intro h
 by_cases hz : z = false ∨ c ≠ 0
 ·rw [opV_ok v1 v2 hz] at h ⊢
  exact red_ok' (hm hz) h
 ·have h1 : z = true := by cases z <;> simp_all
  have h2 : c = 0 := by
   by_cases e : c = 0
   ·exact e
   ·exact absurd (.inr e) hz
  subst h1
  rw [opV_zero v1 v2 h2] at h
  exact absurd h (by decide)
theorem signV_ok {op : ByteArray} {a b : Int} (v : Num.val a b = true) : OkV (signV op a b) := by
 unfold signV
 refine ok_ite (fun _ => opV_val (by decide) v (fun _ => Int.mul_ne_zero (by decide) (val_pos v).1)) (ok_ite (fun _ => ok_truth _) (ok_ite (fun _ => ?_) (fun _ => v)))
 by_cases h : (floorV a b).2 = 0
 ·rw [if_pos h]; exact fun h0 => mk_ok h0
 ·rw [if_neg h]; exact ok_err h
theorem round_ok {a b k : Int} (v : Num.val a b = true) : OkV (roundV a b k) := by
 unfold roundV
 rw [if_pos v]
 exact ok_ite (fun _ => ok_err (by decide)) (fun h => red_ok' (by have : (0 : Int) < 10 ^ k.toNat := Int.pow_pos (by decide); omega) h)
theorem raise_ok {a b c d : Int} (v : Num.val a b = true) : OkV (raiseV a b c d) := by
 unfold raiseV
 exact ok_ite (fun _ => ok_ite (fun _ _ => by decide) (fun h => powV_ok v _ h)) (ok_err (by decide))
theorem applyV_ok {op : ByteArray} {a b c d : Int} (v1 : Num.val a b = true) (v2 : Num.val c d = true) : OkV (applyV op a b c d) := by
 have hbd : b * d ≠ 0 := Int.mul_ne_zero (val_pos v1).1 (val_pos v2).1
 unfold applyV
 refine ok_ite (fun _ => opV_val v1 v2 (fun _ => hbd)) ?_
 refine ok_ite (fun _ => opV_val v1 v2 (fun _ => hbd)) ?_
 refine ok_ite (fun _ => opV_val v1 v2 (fun _ => hbd)) ?_
 refine ok_ite (fun _ => opV_val v1 v2 (fun hc => Int.mul_ne_zero (val_pos v1).1 (by rcases hc with hc | hc; cases hc; exact hc))) ?_
 refine ok_ite (fun _ => opV_val v1 v2 (fun _ => hbd)) ?_
 refine ok_ite (fun _ => raise_ok v1) ?_
 refine ok_ite (fun _ => ?_) ?_
 ·unfold roundsV
  exact ok_ite (fun _ => round_ok v1) (ok_err (by decide))
 repeat (refine ok_ite (fun _ => ok_truth _) ?_)
 exact ok_truth _
theorem Val.ok {T : Form.Tree} {r : Int × Int × Int} (h : Val T r) : OkV r := by
 induction h with
 | num h hv => exact hv
 | @un op a r hop h ih =>
   by_cases h0 : r.2.2 = 0
   ·rw [if_pos h0]; exact signV_ok (ih h0)
   ·rw [if_neg h0]; exact ok_err h0
 | @bin op a b r s hop h k ih1 ih2 =>
   by_cases h0 : r.2.2 = 0
   ·rw [if_pos h0]
    by_cases h1 : s.2.2 = 0
    ·rw [if_pos h1]; exact applyV_ok (ih1 h0) (ih2 h1)
    ·rw [if_neg h1]; exact ok_err h1
   ·rw [if_neg h0]; exact ok_err h0
theorem levels_nil (w : World) : Calls Tryz.prog 54 #[.pointer none] w fun e w' => e = .returned (.int .i64 0) ∧ w = w' := by
 go_enter Tryz.func54, Tryz.ntmps54
 go_wp2_with fail
 go_ret
 exact ⟨rfl, rfl⟩
theorem tree_levels (g : Nat) (T : Form.Tree) : ∀ (h : Nat) (w : World), Lay g w T h → T.levels ≤ 100000 →
  Calls Tryz.prog 54 #[.pointer (some ⟨h, 0, none⟩)] w fun e w' => e = .returned (.int .i64 T.levels) ∧ Below w.heap.size w w' := by
 induction T with
 | num t =>
   intro h w hl hn
   obtain ⟨hg, K⟩ := hl
   have hlt := K.lt
   have c2 : w.cell? ⟨h, 2, none⟩ = some (.pointer none) := K.cell 2
   have c3 : w.cell? ⟨h, 3, none⟩ = some (.pointer none) := K.cell 3
   go_enter Tryz.func54, Tryz.ntmps54
   go_wp2_with fail
   refine wp_region_gr (by kernel_rfl) (by kernel_rfl) ?_
   repeat (go_big_quiet_step (first | (go_at_call 54; with_reducible exact gr_same (levels_nil _))))
   refine wpQuiet_nil ?_
   intro _ hw'; obtain ⟨w5, hw''⟩ := hw'; subst hw''
   go_wp2_with fail
   go_ret
   exact ⟨rfl, gr_below _ _⟩
 | un op a iha =>
   intro h w hl hn
   obtain ⟨hg, i, K, la⟩ := hl
   have hlt := K.lt
   have c2 : w.cell? ⟨h, 2, none⟩ = some (.pointer (some ⟨i, 0, none⟩)) := K.cell 2
   have c3 : w.cell? ⟨h, 3, none⟩ = some (.pointer none) := K.cell 3
   have hp := Form.levels_pos a
   simp only [Form.Tree.levels] at hn
   have hA := fun w5 => iha i (gr w w5) (la.step (Step.of_below (gr_below w w5) (by omega))) (by omega)
   generalize hL : a.levels = L at *
   have e : (Form.Tree.un op a).levels = 1 + L := by rw [Form.Tree.levels, hL]
   rw [e]
   clear iha e
   go_enter Tryz.func54, Tryz.ntmps54
   go_wp2_with fail
   refine wp_region_gr (by kernel_rfl) (by kernel_rfl) ?_
   repeat (go_big_quiet_step (first | (go_at_call 54; with_reducible exact gr_same (levels_nil _)) | (go_at_call 54; with_reducible exact gr_call (hA _))))
   refine wpQuiet_nil ?_
   intro _ hw'; obtain ⟨w5, hw''⟩ := hw'; subst hw''
   go_wp2_with fail
   go_ret
   exact ⟨ret_int (by omega), gr_below _ _⟩
 | bin op a b iha ihb =>
   intro h w hl hn
   obtain ⟨hg, i, j, K, la, lb⟩ := hl
   have hlt := K.lt
   have c2 : w.cell? ⟨h, 2, none⟩ = some (.pointer (some ⟨i, 0, none⟩)) := K.cell 2
   have c3 : w.cell? ⟨h, 3, none⟩ = some (.pointer (some ⟨j, 0, none⟩)) := K.cell 3
   have hp := Form.levels_pos a
   have hq := Form.levels_pos b
   simp only [Form.Tree.levels] at hn
   have hma := Nat.le_max_left a.levels b.levels
   have hmb := Nat.le_max_right a.levels b.levels
   have hA := fun w5 => iha i (gr w w5) (la.step (Step.of_below (gr_below w w5) (by omega))) (by omega)
   have hB := fun w5 => ihb j (gr w w5) (lb.step (Step.of_below (gr_below w w5) (by omega))) (by omega)
   generalize hL : a.levels = L at *
   generalize hM : b.levels = M at *
   have e : (Form.Tree.bin op a b).levels = 1 + max L M := by rw [Form.Tree.levels, hL, hM]
   rw [e]
   clear iha ihb e
   go_enter Tryz.func54, Tryz.ntmps54
   go_wp2_with fail
   refine wp_region_gr (by kernel_rfl) (by kernel_rfl) ?_
   repeat (go_big_quiet_step (first | (go_at_call 54; with_reducible exact gr_call (hA _)) | (go_at_call 54; with_reducible exact gr_call (hB _))))
   refine wpQuiet_nil ?_
   intro _ hw'; obtain ⟨w5, hw''⟩ := hw'; subst hw''
   go_wp2_with fail
   all_goals (go_ret; exact ⟨ret_int (by first | rfl | (simp only [Nat.max_def]; split <;> omega) | omega), gr_below _ _⟩)
theorem value_num (t : ByteArray) (r : Int × Int × Int) (h : Nat) (w : World) (K : Known w h 122 #[.string ⟨#[]⟩, .string t, .pointer none, .pointer none]) (hP : Ret 112 #[.string t] r) :
  Calls Tryz.prog 55 #[.pointer (some ⟨h, 0, none⟩)] w fun e w' => e = .returned (.tuple #[.agg #[.int .i64 r.1, .int .i64 r.2.1], .int .i64 r.2.2]) ∧ Below w.heap.size w w' := by
 unfold Ret at hP
 have hb := below_new0 w (.cells #[.int .i64 0, .int .i64 0] 50)
 have KR := Known.made w 50 #[.int .i64 0, .int .i64 0]
 replace K := K.alloc (.cells #[.int .i64 0, .int .i64 0] 50)
 have c0 : (w.alloc (.cells #[.int .i64 0, .int .i64 0] 50)).cell? ⟨h, 0, none⟩ = some (.string ⟨#[]⟩) := K.cell 0
 have c1 : (w.alloc (.cells #[.int .i64 0, .int .i64 0] 50)).cell? ⟨h, 1, none⟩ = some (.string t) := K.cell 1
 have hl : w.heap.size ≤ w.heap.size := Nat.le_refl _
 go_enter Tryz.func55, Tryz.ntmps55
 go_wp2_with fail
 refine (hP _).mono ?_
 rintro e w1 ⟨rfl, hb1⟩
 replace hb := hb.then_ hb1
 replace KR := KR.on hb1
 have q0 := KR.free 0
 have q1 := KR.free 1
 obtain ⟨r0, r1⟩ := KR.two
 have Kz : Known _ _ _ #[.int .i64 r.1, .int .i64 r.2.1] := (KR.put 0 (.int .i64 r.1)).put 1 (.int .i64 r.2.1)
 obtain ⟨z0, z1⟩ := Kz.two
 go_wp2_with fail
 exact bodyPost_ret (v := .tuple #[.agg #[.int .i64 r.1, .int .i64 r.2.1], .int .i64 r.2.2]) (by simp [results, Tryz.results55, go_sem, z0, z1]) rfl ⟨rfl, (hb.setCell (p := ⟨w.heap.size, 0, none⟩) hl _).setCell (p := ⟨w.heap.size, 1, none⟩) hl _⟩
def SubR (w : World) (i : Nat) (r : Int × Int × Int) : Prop := ∀ w0, Below w.heap.size w w0 → Calls Tryz.prog 55 #[.pointer (some ⟨i, 0, none⟩)] w0 fun e w' => e = .returned (.tuple #[.agg #[.int .i64 r.1, .int .i64 r.2.1], .int .i64 r.2.2]) ∧ Below w0.heap.size w0 w'
theorem value_err1 (op : ByteArray) (vb : Option Addr) (r : Int × Int × Int) (h i : Nat) (w : World) (hop : ¬ op = ⟨#[]⟩) (K : Known w h 122 #[.string op, .string ⟨#[]⟩, .pointer (some ⟨i, 0, none⟩), .pointer vb]) (hA : SubR w i r) (he : ¬ r.2.2 = 0) :
  Calls Tryz.prog 55 #[.pointer (some ⟨h, 0, none⟩)] w fun e w' => e = .returned (.tuple #[.agg #[.int .i64 0, .int .i64 0], .int .i64 r.2.2]) ∧ Below w.heap.size w w' := by
 have hb := below_new0 w (.cells #[.int .i64 0, .int .i64 0] 50)
 have hA1 := hA _ hb
 have hne := str_emp hop
 have g : (r.2.2 == 0) = false := by simpa using he
 have KR := Known.made w 50 #[.int .i64 0, .int .i64 0]
 replace K := K.alloc (.cells #[.int .i64 0, .int .i64 0] 50)
 have c0 : (w.alloc (.cells #[.int .i64 0, .int .i64 0] 50)).cell? ⟨h, 0, none⟩ = some (.string op) := K.cell 0
 have c2 : (w.alloc (.cells #[.int .i64 0, .int .i64 0] 50)).cell? ⟨h, 2, none⟩ = some (.pointer (some ⟨i, 0, none⟩)) := K.cell 2
 have hl : w.heap.size ≤ w.heap.size := Nat.le_refl _
 clear hA
 go_enter Tryz.func55, Tryz.ntmps55
 go_wp2_with fail
 refine hA1.mono ?_
 rintro e w1 ⟨rfl, hb1⟩
 replace hb := (hb.then_ hb1).then_ (below_new0 w1 (.cells #[.int .i64 r.1, .int .i64 r.2.1] 50))
 replace KR := (KR.on hb1).alloc (.cells #[.int .i64 r.1, .int .i64 r.2.1] 50)
 have q0 := KR.free 0
 have q1 := KR.free 1
 obtain ⟨r0, r1⟩ := KR.two
 have Kz : Known _ _ _ #[.int .i64 0, .int .i64 0] := (KR.put 0 (.int .i64 0)).put 1 (.int .i64 0)
 obtain ⟨z0, z1⟩ := Kz.two
 go_wp2_with fail
 exact bodyPost_ret (v := .tuple #[.agg #[.int .i64 0, .int .i64 0], .int .i64 r.2.2]) (by simp [results, Tryz.results55, go_sem, z0, z1]) rfl ⟨rfl, (hb.setCell (p := ⟨w.heap.size, 0, none⟩) hl _).setCell (p := ⟨w.heap.size, 1, none⟩) hl _⟩
theorem value_un (op : ByteArray) (x y : Int) (h i : Nat) (w : World) (hop : ¬ op = ⟨#[]⟩) (K : Known w h 122 #[.string op, .string ⟨#[]⟩, .pointer (some ⟨i, 0, none⟩), .pointer none]) (hA : SubR w i (x, y, 0)) (v : Num.val x y = true) :
  Calls Tryz.prog 55 #[.pointer (some ⟨h, 0, none⟩)] w fun e w' => e = .returned (.tuple #[.agg #[.int .i64 (signV op x y).1, .int .i64 (signV op x y).2.1], .int .i64 (signV op x y).2.2]) ∧ Below w.heap.size w w' := by
 have hb := below_new0 w (.cells #[.int .i64 0, .int .i64 0] 50)
 have hA1 := hA _ hb
 have hS := sign_any op x y (val_i64 v).1 (val_i64 v).2
 unfold Ret at hS
 generalize signV op x y = R at *
 have hne := str_emp hop
 have KR := Known.made w 50 #[.int .i64 0, .int .i64 0]
 replace K := K.alloc (.cells #[.int .i64 0, .int .i64 0] 50)
 have c0 : (w.alloc (.cells #[.int .i64 0, .int .i64 0] 50)).cell? ⟨h, 0, none⟩ = some (.string op) := K.cell 0
 have c2 : (w.alloc (.cells #[.int .i64 0, .int .i64 0] 50)).cell? ⟨h, 2, none⟩ = some (.pointer (some ⟨i, 0, none⟩)) := K.cell 2
 have hl : w.heap.size ≤ w.heap.size := Nat.le_refl _
 clear hA
 simp only at hA1
 go_enter Tryz.func55, Tryz.ntmps55
 go_wp2_with fail
 refine hA1.mono ?_
 rintro e w1 ⟨rfl, hb1⟩
 have K4 := Known.made w1 50 #[.int .i64 x, .int .i64 y]
 replace hb := (hb.then_ hb1).then_ (below_new0 w1 (.cells #[.int .i64 x, .int .i64 y] 50))
 replace KR := (KR.on hb1).alloc (.cells #[.int .i64 x, .int .i64 y] 50)
 have Kw := K.on hb1
 have w0 : w1.cell? ⟨h, 0, none⟩ = some (.string op) := Kw.cell 0
 have w3' : w1.cell? ⟨h, 3, none⟩ = some (.pointer none) := Kw.cell 3
 have wlt := Kw.lt
 have wlt2 : h < w1.heap.size + 1 := by omega
 replace K := (K.on hb1).alloc (.cells #[.int .i64 x, .int .i64 y] 50)
 obtain ⟨d0, d1⟩ := K4.two
 have e0 : (w1.alloc (.cells #[.int .i64 x, .int .i64 y] 50)).cell? ⟨h, 0, none⟩ = some (.string op) := K.cell 0
 have e3 : (w1.alloc (.cells #[.int .i64 x, .int .i64 y] 50)).cell? ⟨h, 3, none⟩ = some (.pointer none) := K.cell 3
 clear c0 c2 hA1
 go_wp2_with fail
 refine wp_region_gr_tail 8 (by kernel_rfl) (by kernel_rfl) ?_
 simp only [List.take_succ_cons, List.take_zero, List.drop_succ_cons, List.drop_zero]
 repeat (go_big_quiet_step (first | (go_at_call 113; exact gr_call (hS _))))
 refine wpQuiet_nil ?_
 intro _ hw'; obtain ⟨w5, hw''⟩ := hw'; subst hw''
 have hBel := gr_below (w1.alloc (.cells #[.int .i64 x, .int .i64 y] 50)) w5
 generalize gr (w1.alloc (.cells #[.int .i64 x, .int .i64 y] 50)) w5 = w3 at *
 replace hb := hb.then_ hBel
 replace KR := KR.on hBel
 have q0 := KR.free 0
 have q1 := KR.free 1
 obtain ⟨r0, r1⟩ := KR.two
 have Kz : Known _ _ _ #[.int .i64 R.1, .int .i64 R.2.1] := (KR.put 0 (.int .i64 R.1)).put 1 (.int .i64 R.2.1)
 obtain ⟨z0, z1⟩ := Kz.two
 go_wp2_with fail
 exact bodyPost_ret (v := .tuple #[.agg #[.int .i64 R.1, .int .i64 R.2.1], .int .i64 R.2.2]) (by simp [results, Tryz.results55, go_sem, z0, z1]) rfl ⟨rfl, (hb.setCell (p := ⟨w.heap.size, 0, none⟩) hl _).setCell (p := ⟨w.heap.size, 1, none⟩) hl _⟩
theorem value_err2 (op : ByteArray) (x y : Int) (s : Int × Int × Int) (h i j : Nat) (w : World) (hop : ¬ op = ⟨#[]⟩) (K : Known w h 122 #[.string op, .string ⟨#[]⟩, .pointer (some ⟨i, 0, none⟩), .pointer (some ⟨j, 0, none⟩)]) (hA : SubR w i (x, y, 0)) (hB : SubR w j s) (he : ¬ s.2.2 = 0) :
  Calls Tryz.prog 55 #[.pointer (some ⟨h, 0, none⟩)] w fun e w' => e = .returned (.tuple #[.agg #[.int .i64 0, .int .i64 0], .int .i64 s.2.2]) ∧ Below w.heap.size w w' := by
 have hb := below_new0 w (.cells #[.int .i64 0, .int .i64 0] 50)
 have hA1 := hA _ hb
 have hne := str_emp hop
 have g : (s.2.2 == 0) = false := by simpa using he
 have KR := Known.made w 50 #[.int .i64 0, .int .i64 0]
 replace K := K.alloc (.cells #[.int .i64 0, .int .i64 0] 50)
 have c0 : (w.alloc (.cells #[.int .i64 0, .int .i64 0] 50)).cell? ⟨h, 0, none⟩ = some (.string op) := K.cell 0
 have c2 : (w.alloc (.cells #[.int .i64 0, .int .i64 0] 50)).cell? ⟨h, 2, none⟩ = some (.pointer (some ⟨i, 0, none⟩)) := K.cell 2
 have hl : w.heap.size ≤ w.heap.size := Nat.le_refl _
 clear hA
 simp only at hA1
 go_enter Tryz.func55, Tryz.ntmps55
 go_wp2_with fail
 refine hA1.mono ?_
 rintro e w1 ⟨rfl, hb1⟩
 replace hb := (hb.then_ hb1).then_ (below_new0 w1 (.cells #[.int .i64 x, .int .i64 y] 50))
 replace KR := (KR.on hb1).alloc (.cells #[.int .i64 x, .int .i64 y] 50)
 replace K := (K.on hb1).alloc (.cells #[.int .i64 x, .int .i64 y] 50)
 have hB1 := hB _ hb
 have e3 : (w1.alloc (.cells #[.int .i64 x, .int .i64 y] 50)).cell? ⟨h, 3, none⟩ = some (.pointer (some ⟨j, 0, none⟩)) := K.cell 3
 clear c0 c2 hA1 hB
 go_wp2_with fail
 refine hB1.mono ?_
 rintro e w2 ⟨rfl, hb2⟩
 replace hb := (hb.then_ hb2).then_ (below_new0 w2 (.cells #[.int .i64 s.1, .int .i64 s.2.1] 50))
 replace KR := (KR.on hb2).alloc (.cells #[.int .i64 s.1, .int .i64 s.2.1] 50)
 have q0 := KR.free 0
 have q1 := KR.free 1
 obtain ⟨r0, r1⟩ := KR.two
 have Kz : Known _ _ _ #[.int .i64 0, .int .i64 0] := (KR.put 0 (.int .i64 0)).put 1 (.int .i64 0)
 obtain ⟨z0, z1⟩ := Kz.two
 clear e3 hB1
 go_wp2_with fail
 exact bodyPost_ret (v := .tuple #[.agg #[.int .i64 0, .int .i64 0], .int .i64 s.2.2]) (by simp [results, Tryz.results55, go_sem, z0, z1]) rfl ⟨rfl, (hb.setCell (p := ⟨w.heap.size, 0, none⟩) hl _).setCell (p := ⟨w.heap.size, 1, none⟩) hl _⟩
theorem value_bin (op : ByteArray) (x y p q : Int) (h i j : Nat) (w : World) (hop : ¬ op = ⟨#[]⟩) (K : Known w h 122 #[.string op, .string ⟨#[]⟩, .pointer (some ⟨i, 0, none⟩), .pointer (some ⟨j, 0, none⟩)]) (hA : SubR w i (x, y, 0)) (hB : SubR w j (p, q, 0))
  (v1 : Num.val x y = true) (v2 : Num.val p q = true) :
  Calls Tryz.prog 55 #[.pointer (some ⟨h, 0, none⟩)] w fun e w' => e = .returned (.tuple #[.agg #[.int .i64 (applyV op x y p q).1, .int .i64 (applyV op x y p q).2.1], .int .i64 (applyV op x y p q).2.2]) ∧ Below w.heap.size w w' := by
 have hb := below_new0 w (.cells #[.int .i64 0, .int .i64 0] 50)
 have hA1 := hA _ hb
 have hS := apply_any op x y p q v1 v2
 unfold Ret at hS
 generalize applyV op x y p q = R at *
 have hne := str_emp hop
 have KR := Known.made w 50 #[.int .i64 0, .int .i64 0]
 replace K := K.alloc (.cells #[.int .i64 0, .int .i64 0] 50)
 have c0 : (w.alloc (.cells #[.int .i64 0, .int .i64 0] 50)).cell? ⟨h, 0, none⟩ = some (.string op) := K.cell 0
 have c2 : (w.alloc (.cells #[.int .i64 0, .int .i64 0] 50)).cell? ⟨h, 2, none⟩ = some (.pointer (some ⟨i, 0, none⟩)) := K.cell 2
 have hl : w.heap.size ≤ w.heap.size := Nat.le_refl _
 clear hA
 simp only at hA1
 go_enter Tryz.func55, Tryz.ntmps55
 go_wp2_with fail
 refine hA1.mono ?_
 rintro e w1 ⟨rfl, hb1⟩
 have K4 := Known.made w1 50 #[.int .i64 x, .int .i64 y]
 replace hb := (hb.then_ hb1).then_ (below_new0 w1 (.cells #[.int .i64 x, .int .i64 y] 50))
 replace KR := (KR.on hb1).alloc (.cells #[.int .i64 x, .int .i64 y] 50)
 replace K := (K.on hb1).alloc (.cells #[.int .i64 x, .int .i64 y] 50)
 have hB1 := hB _ hb
 simp only at hB1
 have e3 : (w1.alloc (.cells #[.int .i64 x, .int .i64 y] 50)).cell? ⟨h, 3, none⟩ = some (.pointer (some ⟨j, 0, none⟩)) := K.cell 3
 clear c0 c2 hA1 hB
 go_wp2_with fail
 refine hB1.mono ?_
 rintro e w2 ⟨rfl, hb2⟩
 have K6 := Known.made w2 50 #[.int .i64 p, .int .i64 q]
 replace hb := (hb.then_ hb2).then_ (below_new0 w2 (.cells #[.int .i64 p, .int .i64 q] 50))
 replace KR := (KR.on hb2).alloc (.cells #[.int .i64 p, .int .i64 q] 50)
 have Kw := K.on hb2
 have K4w := K4.on hb2
 have w0 : w2.cell? ⟨h, 0, none⟩ = some (.string op) := Kw.cell 0
 obtain ⟨w4, w5'⟩ := K4w.two
 have wlt := Kw.lt
 have wlt2 : h < w2.heap.size + 1 := by omega
 have wlt3 := K4w.lt
 have wlt4 : w1.heap.size < w2.heap.size + 1 := by omega
 replace K := (K.on hb2).alloc (.cells #[.int .i64 p, .int .i64 q] 50)
 replace K4 := (K4.on hb2).alloc (.cells #[.int .i64 p, .int .i64 q] 50)
 obtain ⟨d0, d1⟩ := K4.two
 obtain ⟨d2, d3⟩ := K6.two
 have e0 : (w2.alloc (.cells #[.int .i64 p, .int .i64 q] 50)).cell? ⟨h, 0, none⟩ = some (.string op) := K.cell 0
 clear e3 hB1
 go_wp2_with fail
 refine wp_region_gr_tail 9 (by kernel_rfl) (by kernel_rfl) ?_
 simp only [List.take_succ_cons, List.take_zero, List.drop_succ_cons, List.drop_zero]
 repeat (go_big_quiet_step (first | (go_at_call 114; exact gr_call (hS _))))
 refine wpQuiet_nil ?_
 intro _ hw'; obtain ⟨w5, hw''⟩ := hw'; subst hw''
 have hBel := gr_below (w2.alloc (.cells #[.int .i64 p, .int .i64 q] 50)) w5
 generalize gr (w2.alloc (.cells #[.int .i64 p, .int .i64 q] 50)) w5 = w3 at *
 replace hb := hb.then_ hBel
 replace KR := KR.on hBel
 have q0 := KR.free 0
 have q1 := KR.free 1
 obtain ⟨r0, r1⟩ := KR.two
 have Kz : Known _ _ _ #[.int .i64 R.1, .int .i64 R.2.1] := (KR.put 0 (.int .i64 R.1)).put 1 (.int .i64 R.2.1)
 obtain ⟨z0, z1⟩ := Kz.two
 go_wp2_with fail
 exact bodyPost_ret (v := .tuple #[.agg #[.int .i64 R.1, .int .i64 R.2.1], .int .i64 R.2.2]) (by simp [results, Tryz.results55, go_sem, z0, z1]) rfl ⟨rfl, (hb.setCell (p := ⟨w.heap.size, 0, none⟩) hl _).setCell (p := ⟨w.heap.size, 1, none⟩) hl _⟩
theorem tree_value (g : Nat) {T : Form.Tree} {r : Int × Int × Int} (hv : Val T r) : ∀ (h : Nat) (w : World), Lay g w T h →
  Calls Tryz.prog 55 #[.pointer (some ⟨h, 0, none⟩)] w fun e w' => e = .returned (.tuple #[.agg #[.int .i64 r.1, .int .i64 r.2.1], .int .i64 r.2.2]) ∧ Below w.heap.size w w' := by
 induction hv with
 | num hP _ =>
   intro h w hl
   exact value_num _ _ h w hl.2 hP
 | @un op a r hop hA ih =>
   intro h w hl
   obtain ⟨hg, i, K, la⟩ := hl
   have hlt := K.lt
   have hS : SubR w i r := fun w0 hb => ih i w0 (la.step (Step.of_below hb (by omega)))
   by_cases he : r.2.2 = 0
   ·rw [if_pos he]
    obtain ⟨x, y, z⟩ := r
    simp only at he
    subst he
    exact value_un op x y h i w hop K hS (hA.ok rfl)
   ·rw [if_neg he]
    exact value_err1 op none r h i w hop K hS he
 | @bin op a b r s hop hA hB iha ihb =>
   intro h w hl
   obtain ⟨hg, i, j, K, la, lb⟩ := hl
   have hlt := K.lt
   have hSa : SubR w i r := fun w0 hb => iha i w0 (la.step (Step.of_below hb (by omega)))
   have hSb : SubR w j s := fun w0 hb => ihb j w0 (lb.step (Step.of_below hb (by omega)))
   by_cases he : r.2.2 = 0
   ·rw [if_pos he]
    obtain ⟨x, y, z⟩ := r
    simp only at he
    subst he
    by_cases hf : s.2.2 = 0
    ·rw [if_pos hf]
     obtain ⟨p, q, z⟩ := s
     simp only at hf
     subst hf
     exact value_bin op x y p q h i j w hop K hSa hSb (hA.ok rfl) (hB.ok rfl)
    ·rw [if_neg hf]
     exact value_err2 op x y s h i j w hop K hSa hSb hf
   ·rw [if_neg he]
    exact value_err1 op _ r h i w hop K hSa he
end Go.Proofs.YtcklofamaooegaaGreatDoor
