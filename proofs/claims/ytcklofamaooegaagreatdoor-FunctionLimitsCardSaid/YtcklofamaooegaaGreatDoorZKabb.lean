/-
  The claim's own texts, packed. Conditions: those typed in each theorem.
-/
import Derived.Test.YtcklofamaooegaaGreatDoorZKaaq
import Derived.Test.YtcklofamaooegaaGreatDoorZKaao
import Derived.Test.YtcklofamaooegaaGreatDoorZKaau
set_option maxHeartbeats 4000000
set_option maxRecDepth 10000
set_option linter.unusedVariables false
namespace Go.Proofs.YtcklofamaooegaaGreatDoor
open Go.RowKit Go.Maps
inductive EvalR : ByteArray → Int × Int × Int → Prop where
 | long {s : ByteArray} (h : 400 < s.size) : EvalR s (0, 0, 3)
 | scan {s : ByteArray} (h : s.size ≤ 400) (ht : Form.tokens s.data.toList = none) : EvalR s (0, 0, 1)
 | bad {s : ByteArray} {ts : List ByteArray} {f : Nat} {x : Form.Res} (h : s.size ≤ 400) (ht : Form.tokens s.data.toList = some ts) (hP : Form.P f (.lv 0) ts false = some x) (hb : x.bad = true ∨ x.rest ≠ []) : EvalR s (0, 0, 1)
 | deep {s : ByteArray} {ts : List ByteArray} {f : Nat} {T : Form.Tree} (h : s.size ≤ 400) (ht : Form.tokens s.data.toList = some ts) (hP : Form.P f (.lv 0) ts false = some ⟨T, [], false⟩) (hd : 20 < T.levels) : EvalR s (0, 0, 17)
 | val {s : ByteArray} {ts : List ByteArray} {f : Nat} {T : Form.Tree} {r : Int × Int × Int} (h : s.size ≤ 400) (ht : Form.tokens s.data.toList = some ts) (hP : Form.P f (.lv 0) ts false = some ⟨T, [], false⟩) (hd : T.levels ≤ 20) (hv : Val T r) : EvalR s r
theorem PS.made {w : World} {base : Nat} {v : Value} {ts : List ByteArray} (h : w.ownsRow base 9 1 v ts.length (ts.map Value.string)) : PS w.heap.size (w.alloc (.cells #[v, .bool false] 75)) ts false := by
 obtain ⟨h1, h2⟩ := h
 rcases h2 with ⟨rfl, h2⟩ | ⟨g, cap, cur, rfl, hg, hh, hn, hc, hs, ht⟩
 ·have hz : ts = [] := List.eq_nil_of_length_eq_zero h2
  subst hz
  exact ⟨none, 0, Nat.le_refl _, Known.made w _ _, .inl rfl⟩
 ·refine ⟨some ⟨g, 0, none⟩, cap, hn, Known.made w _ _, ?_⟩
  by_cases hz : ts = []
  ·exact .inl hz
  ·have hgl : g < w.heap.size := lt_of_block hh
   refine .inr ⟨g, 0, rfl, hgl, fun i hi => ?_⟩
   rw [((below_new0 w _).cell (p := ⟨g, 0 + i, none⟩) hgl)]
   have h3 := congrArg (fun l => l[i]?) ht
   simp only [List.getElem?_take, List.getElem?_map] at h3
   rw [if_pos (by omega), List.getElem?_eq_getElem hi] at h3
   simp only [World.cell?, hh, Nat.zero_add]
   simpa using h3
theorem row_slice {w : World} {base n : Nat} {t : TypeId} {v : Value} {xs : List Value} (h : w.ownsRow base t 1 v n xs) : ∃ p m c, v = .slice p m c := by
 rcases h.2 with ⟨rfl, _⟩ | ⟨g, cap, cur, rfl, _⟩
 ·exact ⟨_, _, _, rfl⟩
 ·exact ⟨_, _, _, rfl⟩
theorem eval_long (s : ByteArray) (w : World) (h : 400 < s.size) (hs : s.size ≤ 1000000) :
  Calls Tryz.prog 25 #[.string s] w fun e w' => e = .returned (.tuple #[.agg #[.int .i64 0, .int .i64 0], .int .i64 3]) ∧ Below w.heap.size w w' := by
 go_enter Tryz.func25, Tryz.ntmps25
 go_wp2_with fail
 exact bodyPost_ret (v := .tuple #[.agg #[.int .i64 0, .int .i64 0], .int .i64 3]) (by simp [results, Tryz.results25, go_sem]) rfl ⟨rfl, below_new0 _ _⟩
theorem eval_scan (s : ByteArray) (w : World) (h : s.size ≤ 400) (ht : Form.tokens s.data.toList = none) :
  Calls Tryz.prog 25 #[.string s] w fun e w' => e = .returned (.tuple #[.agg #[.int .i64 0, .int .i64 0], .int .i64 1]) ∧ Below w.heap.size w w' := by
 have hS := fun w => scan_any s w (by omega)
 rw [ht] at hS
 unfold ScanPost at hS
 have hb := below_new0 w (.cells #[.int .i64 0, .int .i64 0] 50)
 have KR := Known.made w 50 #[.int .i64 0, .int .i64 0]
 have hl : w.heap.size ≤ w.heap.size := Nat.le_refl _
 clear ht
 go_enter Tryz.func25, Tryz.ntmps25
 go_wp2_with fail
 refine (hS _).mono ?_
 rintro e w1 ⟨hb1, rfl⟩
 replace hb := hb.then_ hb1
 replace KR := KR.on hb1
 have q0 := KR.free 0
 have q1 := KR.free 1
 obtain ⟨r0, r1⟩ := KR.two
 have Kz : Known _ _ _ #[.int .i64 0, .int .i64 0] := (KR.put 0 (.int .i64 0)).put 1 (.int .i64 0)
 obtain ⟨z0, z1⟩ := Kz.two
 go_wp2_with fail
 exact bodyPost_ret (v := .tuple #[.agg #[.int .i64 0, .int .i64 0], .int .i64 1]) (by simp [results, Tryz.results25, go_sem, z0, z1]) rfl ⟨rfl, (hb.setCell (p := ⟨w.heap.size, 0, none⟩) hl _).setCell (p := ⟨w.heap.size, 1, none⟩) hl _⟩
def ParR (ts : List ByteArray) (x : Form.Res) : Prop := ∀ (g : Nat) (w : World), PS g w ts false → Calls Tryz.prog 53 #[.pointer (some ⟨g, 0, none⟩)] w fun e w' => ∃ h, e = .returned (.pointer (some ⟨h, 0, none⟩)) ∧ Step g w w' ∧ Lay g w' x.T h ∧ PS g w' x.rest x.bad
theorem eval_bad (s : ByteArray) (ts : List ByteArray) (x : Form.Res) (w : World) (h : s.size ≤ 400) (ht : Form.tokens s.data.toList = some ts) (hP : ParR ts x) (hr : x.rest.length ≤ 1000) (hbad : x.bad = true ∨ x.bad = false ∧ x.rest ≠ []) :
  Calls Tryz.prog 25 #[.string s] w fun e w' => e = .returned (.tuple #[.agg #[.int .i64 0, .int .i64 0], .int .i64 1]) ∧ Below w.heap.size w w' := by
 have hS := fun w => scan_any s w (by omega)
 rw [ht] at hS
 unfold ScanPost at hS
 unfold ParR at hP
 have hb := below_new0 w (.cells #[.int .i64 0, .int .i64 0] 50)
 have KR := Known.made w 50 #[.int .i64 0, .int .i64 0]
 have hl : w.heap.size ≤ w.heap.size := Nat.le_refl _
 obtain ⟨T, rest, b⟩ := x
 simp only at hr hbad hP
 clear ht
 have hb2 : b = true ∨ b = false ∧ 0 < rest.length := by
  rcases hbad with h1 | ⟨h1, h2⟩
  ·exact .inl h1
  ·exact .inr ⟨h1, List.length_pos_iff.2 h2⟩
 clear hbad
 rcases hb2 with rfl | ⟨rfl, hpos⟩
 all_goals
  go_enter Tryz.func25, Tryz.ntmps25
  go_wp2_with fail
  refine (hS _).mono ?_
  rintro e w1 ⟨hb1, v, rfl, hrow⟩
  obtain ⟨vp, vn, vc, rfl⟩ := row_slice hrow
  replace hb := hb.then_ hb1
  replace KR := KR.on hb1
  have hps := PS.made hrow
  have kr := KR.lt
  have hbx := hb.then_ (below_new0 w1 (.cells #[.slice vp vn vc, .bool false] 75))
  replace KR := KR.alloc (.cells #[.slice vp vn vc, .bool false] 75)
  clear hrow hS
  go_wp2_with fail
  refine (hP _ _ hps).mono ?_
  rintro e w2 ⟨hh, rfl, st, ly, ps⟩
  replace KR := KR.below st.below kr
  have hb3 := hbx.trans (st.below.mono (by omega))
  obtain ⟨p, c, hc, kp, tk⟩ := ps
  have c0 : w2.cell? ⟨w1.heap.size, 0, none⟩ = some (.slice p rest.length c) := kp.cell 0
  have c1 := kp.cell 1
  simp at c1
  have q0 := KR.free 0
  have q1 := KR.free 1
  obtain ⟨r0, r1⟩ := KR.two
  have Kz : Known _ _ _ #[.int .i64 0, .int .i64 0] := (KR.put 0 (.int .i64 0)).put 1 (.int .i64 0)
  obtain ⟨z0, z1⟩ := Kz.two
  clear hps hP ly tk kp st
  go_wp2_with fail
  exact bodyPost_ret (v := .tuple #[.agg #[.int .i64 0, .int .i64 0], .int .i64 1]) (by simp [results, Tryz.results25, go_sem, z0, z1]) rfl ⟨rfl, (hb3.setCell (p := ⟨w.heap.size, 0, none⟩) hl _).setCell (p := ⟨w.heap.size, 1, none⟩) hl _⟩
theorem eval_deep (s : ByteArray) (ts : List ByteArray) (T : Form.Tree) (w : World) (h : s.size ≤ 400) (ht : Form.tokens s.data.toList = some ts) (hP : ParR ts ⟨T, [], false⟩) (hd : 20 < T.levels) (hd2 : T.levels ≤ 100000) :
  Calls Tryz.prog 25 #[.string s] w fun e w' => e = .returned (.tuple #[.agg #[.int .i64 0, .int .i64 0], .int .i64 17]) ∧ Below w.heap.size w w' := by
 have hS := fun w => scan_any s w (by omega)
 rw [ht] at hS
 unfold ScanPost at hS
 unfold ParR at hP
 have hb := below_new0 w (.cells #[.int .i64 0, .int .i64 0] 50)
 have KR := Known.made w 50 #[.int .i64 0, .int .i64 0]
 have hl : w.heap.size ≤ w.heap.size := Nat.le_refl _
 have hL := fun g h w ly => tree_levels g T h w ly hd2
 simp only at hP
 generalize T.levels = L at *
 clear ht
 go_enter Tryz.func25, Tryz.ntmps25
 go_wp2_with fail
 refine (hS _).mono ?_
 rintro e w1 ⟨hb1, v, rfl, hrow⟩
 obtain ⟨vp, vn, vc, rfl⟩ := row_slice hrow
 replace hb := hb.then_ hb1
 replace KR := KR.on hb1
 have hps := PS.made hrow
 have kr := KR.lt
 have hbx := hb.then_ (below_new0 w1 (.cells #[.slice vp vn vc, .bool false] 75))
 replace KR := KR.alloc (.cells #[.slice vp vn vc, .bool false] 75)
 clear hrow hS
 go_wp2_with fail
 refine (hP _ _ hps).mono ?_
 rintro e w2 ⟨hh, rfl, st, ly, ps⟩
 replace KR := KR.below st.below kr
 have hb3 := hbx.trans (st.below.mono (by omega))
 obtain ⟨p, c, hc, kp, tk⟩ := ps
 have c0 : w2.cell? ⟨w1.heap.size, 0, none⟩ = some (.slice p 0 c) := kp.cell 0
 have c1 := kp.cell 1
 simp at c1
 have hL2 := hL _ _ _ ly
 clear hps hP tk kp st
 go_wp2_with fail
 refine hL2.mono ?_
 rintro e w3 ⟨rfl, hb4⟩
 replace hb3 := hb3.then_ hb4
 replace KR := KR.on hb4
 have q0 := KR.free 0
 have q1 := KR.free 1
 obtain ⟨r0, r1⟩ := KR.two
 have Kz : Known _ _ _ #[.int .i64 0, .int .i64 0] := (KR.put 0 (.int .i64 0)).put 1 (.int .i64 0)
 obtain ⟨z0, z1⟩ := Kz.two
 clear c0 c1 hL hL2
 go_wp2_with fail
 exact bodyPost_ret (v := .tuple #[.agg #[.int .i64 0, .int .i64 0], .int .i64 17]) (by simp [results, Tryz.results25, go_sem, z0, z1]) rfl ⟨rfl, (hb3.setCell (p := ⟨w.heap.size, 0, none⟩) hl _).setCell (p := ⟨w.heap.size, 1, none⟩) hl _⟩
theorem eval_val (s : ByteArray) (ts : List ByteArray) (T : Form.Tree) (r : Int × Int × Int) (w : World) (h : s.size ≤ 400) (ht : Form.tokens s.data.toList = some ts) (hP : ParR ts ⟨T, [], false⟩) (hd : T.levels ≤ 20) (hv : Val T r) :
  Calls Tryz.prog 25 #[.string s] w fun e w' => e = .returned (.tuple #[.agg #[.int .i64 r.1, .int .i64 r.2.1], .int .i64 r.2.2]) ∧ Below w.heap.size w w' := by
 have hS := fun w => scan_any s w (by omega)
 rw [ht] at hS
 unfold ScanPost at hS
 unfold ParR at hP
 have hb := below_new0 w (.cells #[.int .i64 0, .int .i64 0] 50)
 have KR := Known.made w 50 #[.int .i64 0, .int .i64 0]
 have hl : w.heap.size ≤ w.heap.size := Nat.le_refl _
 have hL := fun g h w ly => tree_levels g T h w ly (by omega)
 have hV := fun g h w ly => tree_value g hv h w ly
 simp only at hP
 generalize T.levels = L at *
 clear ht hv
 go_enter Tryz.func25, Tryz.ntmps25
 go_wp2_with fail
 refine (hS _).mono ?_
 rintro e w1 ⟨hb1, v, rfl, hrow⟩
 obtain ⟨vp, vn, vc, rfl⟩ := row_slice hrow
 replace hb := hb.then_ hb1
 replace KR := KR.on hb1
 have hps := PS.made hrow
 have kr := KR.lt
 have hbx := hb.then_ (below_new0 w1 (.cells #[.slice vp vn vc, .bool false] 75))
 replace KR := KR.alloc (.cells #[.slice vp vn vc, .bool false] 75)
 clear hrow hS
 go_wp2_with fail
 refine (hP _ _ hps).mono ?_
 rintro e w2 ⟨hh, rfl, st, ly, ps⟩
 replace KR := KR.below st.below kr
 have hb3 := hbx.trans (st.below.mono (by omega))
 have hgl := ps.lt
 obtain ⟨p, c, hc, kp, tk⟩ := ps
 have c0 : w2.cell? ⟨w1.heap.size, 0, none⟩ = some (.slice p 0 c) := kp.cell 0
 have c1 := kp.cell 1
 simp at c1
 have hL2 := hL _ _ _ ly
 clear hps hP tk kp st
 go_wp2_with fail
 refine hL2.mono ?_
 rintro e w3 ⟨rfl, hb4⟩
 replace hb3 := hb3.then_ hb4
 replace KR := KR.on hb4
 have hV2 := hV _ _ _ (ly.step (Step.of_below hb4 (by omega)))
 clear c0 c1 hL hL2 hV
 go_wp2_with fail
 refine hV2.mono ?_
 rintro e w4 ⟨rfl, hb5⟩
 replace hb3 := hb3.then_ hb5
 replace KR := KR.on hb5
 have q0 := KR.free 0
 have q1 := KR.free 1
 obtain ⟨r0, r1⟩ := KR.two
 have Kz : Known _ _ _ #[.int .i64 r.1, .int .i64 r.2.1] := (KR.put 0 (.int .i64 r.1)).put 1 (.int .i64 r.2.1)
 obtain ⟨z0, z1⟩ := Kz.two
 clear hV2
 go_wp2_with fail
 exact bodyPost_ret (v := .tuple #[.agg #[.int .i64 r.1, .int .i64 r.2.1], .int .i64 r.2.2]) (by simp [results, Tryz.results25, go_sem, z0, z1]) rfl ⟨rfl, (hb3.setCell (p := ⟨w.heap.size, 0, none⟩) hl _).setCell (p := ⟨w.heap.size, 1, none⟩) hl _⟩
theorem parR_of {s : ByteArray} {ts : List ByteArray} {f : Nat} {x : Form.Res} (h : s.size ≤ 400) (ht : Form.tokens s.data.toList = some ts) (hP : Form.P f (.lv 0) ts false = some x) : ParR ts x ∧ x.rest.length ≤ 400 ∧ x.T.levels ≤ 401 := by
 have hl := Form.tokens_len ht
 have e : s.data.toList.length = s.size := by simp
 have h1 := Form.P_len _ _ _ _ _ hP
 have h2 := Form.P_levels _ _ _ _ _ hP
 simp only [Form.jobL] at h2
 exact ⟨fun g w ps => (levels_any f).1 g ts false x w hP (by omega) ps, by omega, by omega⟩
theorem eval_any {s : ByteArray} {r : Int × Int × Int} (hs : s.size ≤ 1000000) (h : EvalR s r) : Ret 25 #[.string s] r := by
 intro w
 cases h with
 | long h => exact eval_long s w h hs
 | scan h ht => exact eval_scan s w h ht
 | bad h ht hP hb =>
   obtain ⟨p1, p2, p3⟩ := parR_of h ht hP
   refine eval_bad s _ _ w h ht p1 (by omega) ?_
   rcases hb with hb | hb
   ·exact .inl hb
   ·rename_i x
    cases hx : x.bad
    ·exact .inr ⟨rfl, hb⟩
    ·exact .inl rfl
 | deep h ht hP hd =>
   obtain ⟨p1, p2, p3⟩ := parR_of h ht hP
   exact eval_deep s _ _ w h ht p1 hd (by simp only at p3; omega)
 | val h ht hP hd hv =>
   obtain ⟨p1, p2, p3⟩ := parR_of h ht hP
   exact eval_val s _ _ _ w h ht p1 hd hv
end Go.Proofs.YtcklofamaooegaaGreatDoor
