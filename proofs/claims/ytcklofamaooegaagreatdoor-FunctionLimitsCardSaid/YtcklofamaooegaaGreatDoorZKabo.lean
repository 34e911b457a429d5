/-
  The claim's own texts, packed. Conditions: those typed in each theorem.
-/
import Derived.Test.YtcklofamaooegaaGreatDoorZKabe
import Derived.Test.YtcklofamaooegaaGreatDoorZKaba
import Derived.Test.YtcklofamaooegaaGreatDoorZKabm
import Derived.Test.YtcklofamaooegaaGreatDoorZKabb
set_option maxHeartbeats 4000000
set_option maxRecDepth 10000
set_option linter.unusedVariables false
namespace Go.Proofs.YtcklofamaooegaaGreatDoor
open Go.RowKit Go.Maps
theorem row_slice2 {w : World} {base n : Nat} {t : TypeId} {v : Value} {xs : List Value} (h : w.ownsRow base t 1 v n xs) : ∃ p c, v = .slice p n c := by
 rcases h.2 with ⟨rfl, h2⟩ | ⟨g, cap, cur, rfl, _⟩
 ·subst h2; exact ⟨_, _, rfl⟩
 ·exact ⟨_, _, rfl⟩
theorem RS.made {w : World} {base : Nat} {p : Option Addr} {c : Nat} {ts : List ByteArray} (h : w.ownsRow base 9 1 (.slice p ts.length c) ts.length (ts.map Value.string)) (hl : ts.length ≤ 1000) (hz : ∀ t ∈ ts, 0 < t.size) :
  RS ts.length w.heap.size (w.alloc (.cells #[.slice p ts.length c, .int .i64 0, .bool false] 141)) ts := by
 obtain ⟨h1, h2⟩ := h
 refine ⟨p, c, ts, 0, Known.made w _ _, ⟨⟨hl, rfl⟩, hz⟩, by omega, rfl, ?_⟩
 rcases h2 with ⟨-, h2⟩ | ⟨g, cap, cur, e, hg, hh, hn, hc, hs, ht⟩
 ·exact .inl (List.eq_nil_of_length_eq_zero h2)
 ·obtain rfl : p = some ⟨g, 0, none⟩ := by injection e
  have hgl : g < w.heap.size := lt_of_block hh
  refine .inr ⟨g, 0, rfl, hgl, fun i hi => ?_⟩
  rw [((below_new0 w _).cell (p := ⟨g, 0 + i, none⟩) hgl)]
  have h3 := congrArg (fun l => l[i]?) ht
  simp only [List.getElem?_take, List.getElem?_map] at h3
  rw [if_pos (by omega), List.getElem?_eq_getElem hi] at h3
  simp only [World.cell?, hh, Nat.zero_add]
  simpa using h3
def PNo (s : ByteArray) : Prop := ∀ w, Calls Tryz.prog 87 #[.string s] w fun e w' => e = .returned (.tuple #[.agg #[.string ⟨#[]⟩, .string ⟨#[]⟩, .slice none 0 0], .int .i64 1]) ∧ Below w.heap.size w w'
def PYes (s : ByteArray) (T : Form.Tree) : Prop := ∀ w, Calls Tryz.prog 87 #[.string s] w fun e w' => ∃ o t p n, e = .returned (.tuple #[.agg #[.string o, .string t, .slice p n n], .int .i64 0]) ∧ Below w.heap.size w w' ∧ NL (fun _ => True) w' T o t p n
theorem parse_none (s : ByteArray) (h : s.size ≤ 400) (ht : Form.tokens s.data.toList = none) : PNo s := by
 intro w
 have hS := fun w => tokRef_any s w (by omega)
 rw [ht] at hS
 unfold ScanPost at hS
 have hb := below_new0 w (.cells #[.string ⟨#[]⟩, .string ⟨#[]⟩, .slice none 0 0] 108)
 have KR := Known.made w 108 #[.string ⟨#[]⟩, .string ⟨#[]⟩, .slice none 0 0]
 have hl : w.heap.size ≤ w.heap.size := Nat.le_refl _
 clear ht
 go_enter Tryz.func87, Tryz.ntmps87
 go_wp2_with fail
 refine (hS _).mono ?_
 rintro e w1 ⟨hb1, rfl⟩
 replace hb := hb.trans (hb1.mono hb.size)
 replace KR := KR.on hb1
 have hrl := KR.lt
 have q0 := KR.free 0
 have q1 := KR.free 1
 have q2 := KR.free 2
 obtain ⟨r0, r1, r2⟩ := KR.three
 obtain ⟨z0, z1, z2⟩ := ((((KR.put 0 (.string ⟨#[]⟩)).put 1 (.string ⟨#[]⟩)).put 2 (.slice none 0 0)).alloc (.cells #[.slice none 0 0, .int .i64 0, .bool false] 141)).three
 clear hS KR
 go_wp2_with fail
 exact bodyPost_ret (v := .tuple #[.agg #[.string ⟨#[]⟩, .string ⟨#[]⟩, .slice none 0 0], .int .i64 1]) (by simp [results, Tryz.results87, go_sem, z0, z1, z2]) rfl ⟨rfl, (((hb.setCell (p := ⟨w.heap.size, 0, none⟩) hl _).setCell (p := ⟨w.heap.size, 1, none⟩) hl _).setCell (p := ⟨w.heap.size, 2, none⟩) hl _).alloc (by simp; omega) _⟩
def ParL (ts : List ByteArray) (x : Form.Res) : Prop := ∀ (g : Nat) (w : World), RS ts.length g w ts → Calls Tryz.prog 142 #[.pointer (some ⟨g, 0, none⟩), .int .i64 0] w (Ans ts.length g w x)
theorem parse_bad (s : ByteArray) (ts : List ByteArray) (x : Form.Res) (h : s.size ≤ 400) (ht : Form.tokens s.data.toList = some ts) (hP : ParL ts x) (hlt : ts.length ≤ 1000) (hz : ∀ t ∈ ts, 0 < t.size) (hbad : x.bad = true ∨ x.bad = false ∧ x.rest ≠ []) : PNo s := by
 intro w
 have hS := fun w => tokRef_any s w (by omega)
 rw [ht] at hS
 unfold ScanPost at hS
 have hb := below_new0 w (.cells #[.string ⟨#[]⟩, .string ⟨#[]⟩, .slice none 0 0] 108)
 have KR := Known.made w 108 #[.string ⟨#[]⟩, .string ⟨#[]⟩, .slice none 0 0]
 have hl : w.heap.size ≤ w.heap.size := Nat.le_refl _
 clear ht
 rcases hbad with hx | ⟨hx, hx2⟩
 all_goals
  go_enter Tryz.func87, Tryz.ntmps87
  go_wp2_with fail
  refine (hS _).mono ?_
  rintro e w1 ⟨hb1, v, rfl, hrow⟩
  obtain ⟨vp, vc, rfl⟩ := row_slice2 hrow
  replace hb := hb.trans (hb1.mono hb.size)
  replace KR := KR.on hb1
  have hrl := KR.lt
  have hrs := RS.made hrow hlt hz
  have KR1 := KR.alloc (.cells #[.slice vp ts.length vc, .int .i64 0, .bool false] 141)
  have hb2 := hb.alloc hb.size (.cells #[.slice vp ts.length vc, .int .i64 0, .bool false] 141)
  have hC := hP _ _ hrs
  clear hrow hS KR hb hb1 hrs
  go_wp2_with fail
  refine hC.mono ?_
  rintro e w2 ⟨o, t, p, n, rfl, st, gd, bd⟩
  have z1 := st.below.size
  simp at z1
  have KR2 := KR1.step st (by omega)
  have hb3 := hb2.trans (st.below.mono (by omega))
  have hgl : w1.heap.size < w2.heap.size := by omega
  have hrl2 := KR2.lt
  have q0 := KR2.free 0
  have q1 := KR2.free 1
  have q2 := KR2.free 2
  obtain ⟨r0, r1, r2⟩ := KR2.three
  obtain ⟨z0, z1, z2⟩ := ((((KR2.put 0 (.string ⟨#[]⟩)).put 1 (.string ⟨#[]⟩)).put 2 (.slice none 0 0)).alloc (.cells #[.string o, .string t, .slice p n n] 108)).three
  have hb4 := (((hb3.setCell (p := ⟨w.heap.size, 0, none⟩) hl (.string ⟨#[]⟩)).setCell (p := ⟨w.heap.size, 1, none⟩) hl (.string ⟨#[]⟩)).setCell (p := ⟨w.heap.size, 2, none⟩) hl (.slice none 0 0)).alloc (by simp; omega) (.cells #[.string o, .string t, .slice p n n] 108)
 ·obtain ⟨p', n', c', i', K'⟩ := bd hx
  have c1 := K'.cell 1
  have c2 := K'.cell 2
  simp only [List.getElem?_toArray, List.getElem?_cons_zero, List.getElem?_cons_succ] at c1 c2
  clear hC KR1 KR2 hP K' st gd bd hb2 hb3 hx
  go_wp2_with fail
  exact bodyPost_ret (v := .tuple #[.agg #[.string ⟨#[]⟩, .string ⟨#[]⟩, .slice none 0 0], .int .i64 1]) (by simp [results, Tryz.results87, go_sem, z0, z1, z2]) rfl ⟨rfl, hb4⟩
 ·obtain ⟨i', c1, c2, hN⟩ := (gd hx).2.far
  have hpos : 0 < x.rest.length := List.length_pos_iff.2 hx2
  have gg : decide ((i' : Int) < (ts.length : Int)) = true := by rw [decide_eq_true_eq]; omega
  clear hC KR1 KR2 hP st gd bd hb2 hb3 hx hx2
  go_wp2_with fail
  exact bodyPost_ret (v := .tuple #[.agg #[.string ⟨#[]⟩, .string ⟨#[]⟩, .slice none 0 0], .int .i64 1]) (by simp [results, Tryz.results87, go_sem, z0, z1, z2]) rfl ⟨rfl, hb4⟩
theorem parse_yes (s : ByteArray) (ts : List ByteArray) (T : Form.Tree) (h : s.size ≤ 400) (ht : Form.tokens s.data.toList = some ts) (hP : ParL ts ⟨T, [], false⟩) (hlt : ts.length ≤ 1000) (hz : ∀ t ∈ ts, 0 < t.size) : PYes s T := by
 intro w
 have hS := fun w => tokRef_any s w (by omega)
 rw [ht] at hS
 unfold ScanPost at hS
 have hb := below_new0 w (.cells #[.string ⟨#[]⟩, .string ⟨#[]⟩, .slice none 0 0] 108)
 have KR := Known.made w 108 #[.string ⟨#[]⟩, .string ⟨#[]⟩, .slice none 0 0]
 have hl : w.heap.size ≤ w.heap.size := Nat.le_refl _
 clear ht
 go_enter Tryz.func87, Tryz.ntmps87
 go_wp2_with fail
 refine (hS _).mono ?_
 rintro e w1 ⟨hb1, v, rfl, hrow⟩
 obtain ⟨vp, vc, rfl⟩ := row_slice2 hrow
 replace hb := hb.trans (hb1.mono hb.size)
 replace KR := KR.on hb1
 have hrl := KR.lt
 have hrs := RS.made hrow hlt hz
 have KR1 := KR.alloc (.cells #[.slice vp ts.length vc, .int .i64 0, .bool false] 141)
 have hb2 := hb.alloc hb.size (.cells #[.slice vp ts.length vc, .int .i64 0, .bool false] 141)
 have hC := hP _ _ hrs
 clear hrow hS KR hb hb1 hrs
 go_wp2_with fail
 refine hC.mono ?_
 rintro e w2 ⟨o, t, p, n, rfl, st, gd, bd⟩
 have z1 := st.below.size
 simp at z1
 have KR2 := KR1.step st (by omega)
 have hb3 := hb2.trans (st.below.mono (by omega))
 have hgl : w1.heap.size < w2.heap.size := by omega
 have hrl2 := KR2.lt
 have q0 := KR2.free 0
 have q1 := KR2.free 1
 have q2 := KR2.free 2
 obtain ⟨r0, r1, r2⟩ := KR2.three
 obtain ⟨z0, z1, z2⟩ := ((((KR2.put 0 (.string o)).put 1 (.string t)).put 2 (.slice p n n)).alloc (.cells #[.string o, .string t, .slice p n n] 108)).three
 have hb4 := (((hb3.setCell (p := ⟨w.heap.size, 0, none⟩) hl (.string o)).setCell (p := ⟨w.heap.size, 1, none⟩) hl (.string t)).setCell (p := ⟨w.heap.size, 2, none⟩) hl (.slice p n n)).alloc (by simp; omega) (.cells #[.string o, .string t, .slice p n n] 108)
 obtain ⟨nl, rs⟩ := gd rfl
 obtain ⟨i', c1, c2, hN⟩ := rs.far
 have hne : ∀ i, (w1.alloc (.cells #[.slice vp ts.length vc, .int .i64 0, .bool false] 141)).heap.size ≤ i → i ≠ w.heap.size := fun i hi => by simp at hi; omega
 have nl4 := ((((((nl.put (v := .string o) (j := 0) hne).put (v := .string t) (j := 1) hne).put (v := .slice p n n) (j := 2) hne).alloc (.cells #[.string o, .string t, .slice p n n] 108)))).mono (q' := fun _ => True) (fun _ _ => trivial)
 have HNL := Lib.hid nl4
 have hi' : i' = ts.length := by simpa using hN
 subst hi'
 clear hC KR1 KR2 hP st gd bd hb2 hb3 nl nl4 rs hN hne
 generalize ts.length = m at *
 have gg : decide ((m : Int) < (m : Int)) = false := by simp
 go_wp2_with fail
 exact bodyPost_ret (v := .tuple #[.agg #[.string o, .string t, .slice p n n], .int .i64 0]) (by simp [results, Tryz.results87, go_sem, z0, z1, z2]) rfl ⟨o, t, p, n, rfl, hb4, HNL.out⟩
theorem refEval_long (s : ByteArray) (w : World) (h : 400 < s.size) (hs : s.size ≤ 1000000) :
  Calls Tryz.prog 40 #[.string s] w fun e w' => e = .returned (.tuple #[.agg #[.int .i64 0, .int .i64 0], .int .i64 3]) ∧ Below w.heap.size w w' := by
 go_enter Tryz.func40, Tryz.ntmps40
 go_wp2_with fail
 exact bodyPost_ret (v := .tuple #[.agg #[.int .i64 0, .int .i64 0], .int .i64 3]) (by simp [results, Tryz.results40, go_sem]) rfl ⟨rfl, below_new0 _ _⟩
theorem refEval_no (s : ByteArray) (w : World) (h : s.size ≤ 400) (hN : PNo s) :
  Calls Tryz.prog 40 #[.string s] w fun e w' => e = .returned (.tuple #[.agg #[.int .i64 0, .int .i64 0], .int .i64 1]) ∧ Below w.heap.size w w' := by
 unfold PNo at hN
 have hb := below_new0 w (.cells #[.int .i64 0, .int .i64 0] 50)
 have KR := Known.made w 50 #[.int .i64 0, .int .i64 0]
 have hl : w.heap.size ≤ w.heap.size := Nat.le_refl _
 go_enter Tryz.func40, Tryz.ntmps40
 go_wp2_with fail
 refine (hN _).mono ?_
 rintro e w1 ⟨rfl, hb1⟩
 replace hb := hb.trans (hb1.mono hb.size)
 replace KR := KR.on hb1
 have hrl := KR.lt
 have q0 := KR.free 0
 have q1 := KR.free 1
 obtain ⟨r0, r1⟩ := KR.two
 obtain ⟨z0, z1⟩ := (((KR.put 0 (.int .i64 0)).put 1 (.int .i64 0)).alloc (.cells #[.string ⟨#[]⟩, .string ⟨#[]⟩, .slice none 0 0] 108)).two
 clear hN KR
 go_wp2_with fail
 exact bodyPost_ret (v := .tuple #[.agg #[.int .i64 0, .int .i64 0], .int .i64 1]) (by simp [results, Tryz.results40, go_sem, z0, z1]) rfl ⟨rfl, ((hb.setCell (p := ⟨w.heap.size, 0, none⟩) hl _).setCell (p := ⟨w.heap.size, 1, none⟩) hl _).alloc (by simp; omega) _⟩
theorem refEval_deep (s : ByteArray) (T : Form.Tree) (w : World) (h : s.size ≤ 400) (hN : PYes s T) (hd : 20 < T.levels) (hd2 : T.levels ≤ 1000) :
  Calls Tryz.prog 40 #[.string s] w fun e w' => e = .returned (.tuple #[.agg #[.int .i64 0, .int .i64 0], .int .i64 17]) ∧ Below w.heap.size w w' := by
 unfold PYes at hN
 have hb := below_new0 w (.cells #[.int .i64 0, .int .i64 0] 50)
 have KR := Known.made w 50 #[.int .i64 0, .int .i64 0]
 have hl : w.heap.size ≤ w.heap.size := Nat.le_refl _
 go_enter Tryz.func40, Tryz.ntmps40
 go_wp2_with fail
 refine (hN _).mono ?_
 rintro e w1 ⟨o, t, p, n, rfl, hb1, nl⟩
 replace hb := hb.trans (hb1.mono hb.size)
 have KR1 := KR.on hb1
 have hrl := KR1.lt
 replace KR := KR1.alloc (.cells #[.string o, .string t, .slice p n n] 108)
 replace hb := hb.alloc hb.size (.cells #[.string o, .string t, .slice p n n] 108)
 have hD := depth_any _ T o t p n _ (nl.alloc (.cells #[.string o, .string t, .slice p n n] 108)) hd2
 generalize T.levels = d at *
 clear hN nl KR1
 go_wp2_with fail
 refine hD.mono ?_
 rintro e w2 ⟨rfl, hb2⟩
 replace hb := hb.trans (hb2.mono hb.size)
 replace KR := KR.on hb2
 have q0 := KR.free 0
 have q1 := KR.free 1
 obtain ⟨r0, r1⟩ := KR.two
 obtain ⟨z0, z1⟩ := ((KR.put 0 (.int .i64 0)).put 1 (.int .i64 0)).two
 clear hD KR
 go_wp2_with fail
 exact bodyPost_ret (v := .tuple #[.agg #[.int .i64 0, .int .i64 0], .int .i64 17]) (by simp [results, Tryz.results40, go_sem, z0, z1]) rfl ⟨rfl, (hb.setCell (p := ⟨w.heap.size, 0, none⟩) hl _).setCell (p := ⟨w.heap.size, 1, none⟩) hl _⟩
theorem refEval_val (s : ByteArray) (T : Form.Tree) (r : Int × Int × Int) (w : World) (h : s.size ≤ 400) (hN : PYes s T) (hd : T.levels ≤ 20) (hv : ValB T r) :
  Calls Tryz.prog 40 #[.string s] w fun e w' => e = .returned (.tuple #[.agg #[.int .i64 r.1, .int .i64 r.2.1], .int .i64 r.2.2]) ∧ Below w.heap.size w w' := by
 unfold PYes at hN
 have hb := below_new0 w (.cells #[.int .i64 0, .int .i64 0] 50)
 have KR := Known.made w 50 #[.int .i64 0, .int .i64 0]
 have hl : w.heap.size ≤ w.heap.size := Nat.le_refl _
 go_enter Tryz.func40, Tryz.ntmps40
 go_wp2_with fail
 refine (hN _).mono ?_
 rintro e w1 ⟨o, t, p, n, rfl, hb1, nl⟩
 replace hb := hb.trans (hb1.mono hb.size)
 have KR1 := KR.on hb1
 have hrl := KR1.lt
 replace KR := KR1.alloc (.cells #[.string o, .string t, .slice p n n] 108)
 replace hb := hb.alloc hb.size (.cells #[.string o, .string t, .slice p n n] 108)
 have KX := Known.made w1 108 #[.string o, .string t, .slice p n n]
 have nl1 := nl.alloc (.cells #[.string o, .string t, .slice p n n] 108)
 have hD := depth_any _ T o t p n _ nl1 (by omega)
 generalize T.levels = d at *
 clear hN nl KR1
 go_wp2_with fail
 refine hD.mono ?_
 rintro e w2 ⟨rfl, hb2⟩
 replace hb := hb.trans (hb2.mono hb.size)
 replace KR := KR.on hb2
 replace KX := KX.on hb2
 obtain ⟨x0, x1, x2⟩ := KX.three
 have hC := refValue _ hv o t p n w2 (nl1.on (q' := fun _ => True) (fun i hi hl => ⟨trivial, hb2.block i hl⟩))
 clear hD nl1 hv
 go_wp2_with fail
 refine hC.mono ?_
 rintro e w3 ⟨rfl, hb3⟩
 replace hb := hb.trans (hb3.mono hb.size)
 replace KR := KR.on hb3
 have q0 := KR.free 0
 have q1 := KR.free 1
 obtain ⟨r0, r1⟩ := KR.two
 obtain ⟨z0, z1⟩ := ((KR.put 0 (.int .i64 r.1)).put 1 (.int .i64 r.2.1)).two
 clear hC KR KX x0 x1 x2
 go_wp2_with fail
 exact bodyPost_ret (v := .tuple #[.agg #[.int .i64 r.1, .int .i64 r.2.1], .int .i64 r.2.2]) (by simp [results, Tryz.results40, go_sem, z0, z1]) rfl ⟨rfl, (hb.setCell (p := ⟨w.heap.size, 0, none⟩) hl _).setCell (p := ⟨w.heap.size, 1, none⟩) hl _⟩
end Go.Proofs.YtcklofamaooegaaGreatDoor
