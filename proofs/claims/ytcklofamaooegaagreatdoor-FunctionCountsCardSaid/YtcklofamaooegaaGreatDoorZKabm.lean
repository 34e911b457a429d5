/-
  The claim's own texts, packed. Conditions: those typed in each theorem.
-/
import Derived.Test.YtcklofamaooegaaGreatDoorZKabf
import Derived.Test.YtcklofamaooegaaGreatDoorZKaab
import Derived.Test.YtcklofamaooegaaGreatDoorZKabj
set_option maxHeartbeats 4000000
set_option maxRecDepth 10000
set_option linter.unusedVariables false
namespace Go.Proofs.YtcklofamaooegaaGreatDoor
open Go.RowKit
inductive ValB : Form.Tree → Int × Int × Int → Prop where
 | num {t : ByteArray} {r : Int × Int × Int} (h : Ret 112 #[.string t] r) (h2 : Ret 143 #[.string t] r) (hv : r.2.2 = 0 → Num.val r.1 r.2.1 = true) : ValB (.num t) r
 | un {op : ByteArray} {a : Form.Tree} {r : Int × Int × Int} (hop : ¬ op = ⟨#[]⟩) (h : ValB a r) : ValB (.un op a) (if r.2.2 = 0 then signV op r.1 r.2.1 else (0, 0, r.2.2))
 | bin {op : ByteArray} {a b : Form.Tree} {r s : Int × Int × Int} (hop : ¬ op = ⟨#[]⟩) (h : ValB a r) (k : ValB b s) :
   ValB (.bin op a b) (if r.2.2 = 0 then (if s.2.2 = 0 then applyV op r.1 r.2.1 s.1 s.2.1 else (0, 0, s.2.2)) else (0, 0, r.2.2))
theorem ValB.val {T : Form.Tree} {r : Int × Int × Int} (h : ValB T r) : Val T r := by
 induction h with
 | num h h2 hv => exact .num h hv
 | un hop h ih => exact .un hop ih
 | bin hop h k ih1 ih2 => exact .bin hop ih1 ih2
theorem resV_ok (b : Bool) (o : Option (Nat × Nat)) : (resV b o).2.2 = 0 → Num.val (resV b o).1 (resV b o).2.1 = true := by
 unfold resV
 intro h
 split at h
 ·cases h
 ·exact red_ok' (Int.ne_of_gt (Int.pow_pos (by decide))) h
def SubV (w : World) (o s : ByteArray) (p : Option Addr) (m : Nat) (r : Int × Int × Int) : Prop := ∀ w0, Below w.heap.size w w0 → Calls Tryz.prog 89 #[.agg #[.string o, .string s, .slice p m m]] w0 fun e w' => e = .returned (.tuple #[.agg #[.int .i64 r.1, .int .i64 r.2.1], .int .i64 r.2.2]) ∧ Below w0.heap.size w0 w'
def WV (o s : ByteArray) (p : Option Addr) (m : Nat) (w : World) : World := (w.alloc (.cells #[.string o, .string s, .slice p m m] 108)).alloc (.cells #[.int .i64 0, .int .i64 0] 50)
theorem WV_below (o s : ByteArray) (p : Option Addr) (m : Nat) (w : World) : Below w.heap.size w (WV o s p m w) := (below_new0 w _).then_ (below_new0 _ _)
theorem WV_n (o s : ByteArray) (p : Option Addr) (m : Nat) (w : World) : Known (WV o s p m w) w.heap.size 108 #[.string o, .string s, .slice p m m] := (Known.made w _ _).alloc _
theorem WV_r (o s : ByteArray) (p : Option Addr) (m : Nat) (w : World) : Known (WV o s p m w) (w.heap.size + 1) 50 #[.int .i64 0, .int .i64 0] := Known.made2 w _ _ _
theorem valR_num (t : ByteArray) (r : Int × Int × Int) (w : World) (hP : Ret 143 #[.string t] r) :
  Calls Tryz.prog 89 #[.agg #[.string ⟨#[]⟩, .string t, .slice none 0 0]] w fun e w' => e = .returned (.tuple #[.agg #[.int .i64 r.1, .int .i64 r.2.1], .int .i64 r.2.2]) ∧ Below w.heap.size w w' := by
 have hb := WV_below ⟨#[]⟩ t none 0 w
 have KN := WV_n ⟨#[]⟩ t none 0 w
 have KR := WV_r ⟨#[]⟩ t none 0 w
 have hl : w.heap.size ≤ w.heap.size + 1 := by omega
 unfold WV at hb KN KR
 unfold Ret at hP
 obtain ⟨c0, c1, c2⟩ := KN.three
 go_enter Tryz.func89, Tryz.ntmps89
 go_wp2_with fail
 refine (hP _).mono ?_
 rintro e w1 ⟨rfl, hb1⟩
 replace hb := hb.then_ hb1
 replace KR := KR.on hb1
 clear c0 c1 c2 KN hP
 have q0 := KR.free 0
 have q1 := KR.free 1
 obtain ⟨r0, r1⟩ := KR.two
 have Kz : Known _ _ _ #[.int .i64 r.1, .int .i64 r.2.1] := (KR.put 0 (.int .i64 r.1)).put 1 (.int .i64 r.2.1)
 obtain ⟨z0, z1⟩ := Kz.two
 go_wp2_with fail
 exact bodyPost_ret (v := .tuple #[.agg #[.int .i64 r.1, .int .i64 r.2.1], .int .i64 r.2.2]) (by simp [results, Tryz.results89, go_sem, z0, z1]) rfl ⟨rfl, (hb.setCell (p := ⟨w.heap.size + 1, 0, none⟩) hl _).setCell (p := ⟨w.heap.size + 1, 1, none⟩) hl _⟩
theorem valR_un (op o1 s1 : ByteArray) (p1 : Option Addr) (m1 i : Nat) (x y : Int) (w : World) (hop : ¬ op = ⟨#[]⟩) (K : Known w i 108 #[.string o1, .string s1, .slice p1 m1 m1]) (hA : SubV w o1 s1 p1 m1 (x, y, 0)) (v : Num.val x y = true) :
  Calls Tryz.prog 89 #[.agg #[.string op, .string ⟨#[]⟩, .slice (some ⟨i, 0, none⟩) 1 1]] w fun e w' => e = .returned (.tuple #[.agg #[.int .i64 (signV op x y).1, .int .i64 (signV op x y).2.1], .int .i64 (signV op x y).2.2]) ∧ Below w.heap.size w w' := by
 have hO := one_any op x y v
 unfold Ret at hO
 generalize signV op x y = r at *
 have he := str_emp hop
 have hb := WV_below op ⟨#[]⟩ (some ⟨i, 0, none⟩) 1 w
 have KN := WV_n op ⟨#[]⟩ (some ⟨i, 0, none⟩) 1 w
 have KR := WV_r op ⟨#[]⟩ (some ⟨i, 0, none⟩) 1 w
 have hC := hA _ hb
 have hi := K.lt
 have KI := K.on hb
 have hl : w.heap.size ≤ w.heap.size + 1 := by omega
 unfold WV at hb KN KR KI hC
 obtain ⟨c0, c1, c2⟩ := KN.three
 obtain ⟨d0, d1, d2⟩ := K.three
 clear hA v hop
 go_enter Tryz.func89, Tryz.ntmps89
 go_wp2_with fail
 refine hC.mono ?_
 rintro e w1 ⟨rfl, hb1⟩
 replace hb := hb.then_ hb1
 replace KN := (KN.on hb1).alloc (.cells #[.int .i64 x, .int .i64 y] 50)
 have KR1 := KR.on hb1
 have hrl := KR1.lt
 replace KR := KR1.alloc (.cells #[.int .i64 x, .int .i64 y] 50)
 have KX := Known.made w1 50 #[.int .i64 x, .int .i64 y]
 replace hb := hb.alloc hb.size (.cells #[.int .i64 x, .int .i64 y] 50)
 clear c0 c1 c2 d0 d1 d2 KI hC KR1
 obtain ⟨c0, c1, c2⟩ := KN.three
 obtain ⟨x0, x1⟩ := KX.two
 have hnl : w.heap.size < w1.heap.size := by omega
 go_wp2_with fail
 refine (hO _).mono ?_
 rintro e w2 ⟨rfl, hb2⟩
 replace hb := hb.then_ hb2
 replace KR := KR.on hb2
 clear c0 c1 c2 x0 x1 KX KN hO
 have q0 := KR.free 0
 have q1 := KR.free 1
 obtain ⟨r0, r1⟩ := KR.two
 have Kz : Known _ _ _ #[.int .i64 r.1, .int .i64 r.2.1] := (KR.put 0 (.int .i64 r.1)).put 1 (.int .i64 r.2.1)
 obtain ⟨z0, z1⟩ := Kz.two
 go_wp2_with fail
 exact bodyPost_ret (v := .tuple #[.agg #[.int .i64 r.1, .int .i64 r.2.1], .int .i64 r.2.2]) (by simp [results, Tryz.results89, go_sem, z0, z1]) rfl ⟨rfl, (hb.setCell (p := ⟨w.heap.size + 1, 0, none⟩) hl _).setCell (p := ⟨w.heap.size + 1, 1, none⟩) hl _⟩
theorem valR_err1 (op o1 s1 : ByteArray) (p1 : Option Addr) (m1 i n : Nat) (r : Int × Int × Int) (cs : List Value) (w : World) (hop : ¬ op = ⟨#[]⟩) (hn : 1 ≤ n ∧ n ≤ 2) (hi : i < w.heap.size)
  (k0 : w.cell? ⟨i, 0, none⟩ = some (.string o1)) (k1 : w.cell? ⟨i, 1, none⟩ = some (.string s1)) (k2 : w.cell? ⟨i, 2, none⟩ = some (.slice p1 m1 m1)) (hA : SubV w o1 s1 p1 m1 r) (hr : ¬ r.2.2 = 0) :
  Calls Tryz.prog 89 #[.agg #[.string op, .string ⟨#[]⟩, .slice (some ⟨i, 0, none⟩) n n]] w fun e w' => e = .returned (.tuple #[.agg #[.int .i64 0, .int .i64 0], .int .i64 r.2.2]) ∧ Below w.heap.size w w' := by
 have hz : (r.2.2 != 0) = true := by simpa using hr
 have he := str_emp hop
 have hb := WV_below op ⟨#[]⟩ (some ⟨i, 0, none⟩) n w
 have KN := WV_n op ⟨#[]⟩ (some ⟨i, 0, none⟩) n w
 have KR := WV_r op ⟨#[]⟩ (some ⟨i, 0, none⟩) n w
 have hC := hA _ hb
 have hl : w.heap.size ≤ w.heap.size + 1 := by omega
 unfold WV at hb KN KR hC
 obtain ⟨c0, c1, c2⟩ := KN.three
 have hn1 : (0 : Int) < n := by omega
 clear hA hop hr
 go_enter Tryz.func89, Tryz.ntmps89
 go_wp2_with fail
 refine hC.mono ?_
 rintro e w1 ⟨rfl, hb1⟩
 replace hb := hb.then_ hb1
 have KR1 := KR.on hb1
 have hrl := KR1.lt
 clear c0 c1 c2 k0 k1 k2 hC KR KN
 have q0 := KR1.free 0
 have q1 := KR1.free 1
 obtain ⟨r0, r1⟩ := KR1.two
 have Kz : Known _ _ _ #[.int .i64 0, .int .i64 0] := ((KR1.put 0 (.int .i64 0)).put 1 (.int .i64 0)).alloc (.cells #[.int .i64 r.1, .int .i64 r.2.1] 50)
 obtain ⟨z0, z1⟩ := Kz.two
 go_wp2_with fail
 exact bodyPost_ret (v := .tuple #[.agg #[.int .i64 0, .int .i64 0], .int .i64 r.2.2]) (by simp [results, Tryz.results89, go_sem, z0, z1]) rfl ⟨rfl, ((hb.setCell (p := ⟨w.heap.size + 1, 0, none⟩) hl _).setCell (p := ⟨w.heap.size + 1, 1, none⟩) hl _).alloc (by simp; omega) _⟩
theorem valR_bin (op o1 s1 o2 s2 : ByteArray) (p1 p2 : Option Addr) (m1 m2 i : Nat) (x y p q : Int) (w : World) (hop : ¬ op = ⟨#[]⟩) (K : Known w i 108 #[.string o1, .string s1, .slice p1 m1 m1, .string o2, .string s2, .slice p2 m2 m2])
  (hA : SubV w o1 s1 p1 m1 (x, y, 0)) (hB : SubV w o2 s2 p2 m2 (p, q, 0)) (v : Num.val x y = true) (v2 : Num.val p q = true) :
  Calls Tryz.prog 89 #[.agg #[.string op, .string ⟨#[]⟩, .slice (some ⟨i, 0, none⟩) 2 2]] w fun e w' => e = .returned (.tuple #[.agg #[.int .i64 (applyV op x y p q).1, .int .i64 (applyV op x y p q).2.1], .int .i64 (applyV op x y p q).2.2]) ∧ Below w.heap.size w w' := by
 have hO := two8_any op x y p q v v2
 unfold Ret at hO
 generalize applyV op x y p q = r at *
 have he := str_emp hop
 have hb := WV_below op ⟨#[]⟩ (some ⟨i, 0, none⟩) 2 w
 have KN := WV_n op ⟨#[]⟩ (some ⟨i, 0, none⟩) 2 w
 have KR := WV_r op ⟨#[]⟩ (some ⟨i, 0, none⟩) 2 w
 have hC := hA _ hb
 have hi := K.lt
 have hl : w.heap.size ≤ w.heap.size + 1 := by omega
 unfold WV at hb KN KR hC
 obtain ⟨c0, c1, c2⟩ := KN.three
 have d0 := K.cell 0
 have d1 := K.cell 1
 have d2 := K.cell 2
 simp only [List.getElem?_toArray, List.getElem?_cons_zero, List.getElem?_cons_succ] at d0 d1 d2
 clear hA v v2 hop
 go_enter Tryz.func89, Tryz.ntmps89
 go_wp2_with fail
 refine hC.mono ?_
 rintro e w1 ⟨rfl, hb1⟩
 replace hb := hb.then_ hb1
 replace KN := (KN.on hb1).alloc (.cells #[.int .i64 x, .int .i64 y] 50)
 have KR1 := KR.on hb1
 have hrl := KR1.lt
 replace KR := KR1.alloc (.cells #[.int .i64 x, .int .i64 y] 50)
 have KX := Known.made w1 50 #[.int .i64 x, .int .i64 y]
 have KI := K.on hb
 replace hb := hb.alloc hb.size (.cells #[.int .i64 x, .int .i64 y] 50)
 have hC2 := hB _ hb
 clear c0 c1 c2 d0 d1 d2 hC KR1 hB
 obtain ⟨c0, c1, c2⟩ := KN.three
 obtain ⟨x0, x1⟩ := KX.two
 have d3 := KI.cell 3
 have d4 := KI.cell 4
 have d5 := KI.cell 5
 simp only [List.getElem?_toArray, List.getElem?_cons_zero, List.getElem?_cons_succ] at d3 d4 d5
 have hnl : w.heap.size < w1.heap.size := by omega
 have hil : i < w1.heap.size := by omega
 go_wp2_with fail
 refine hC2.mono ?_
 rintro e w2 ⟨rfl, hb2⟩
 replace hb := hb.then_ hb2
 replace KN := (KN.on hb2).alloc (.cells #[.int .i64 p, .int .i64 q] 50)
 replace KX := (KX.on hb2).alloc (.cells #[.int .i64 p, .int .i64 q] 50)
 have KR2 := KR.on hb2
 have hrl2 := KR2.lt
 replace KR := KR2.alloc (.cells #[.int .i64 p, .int .i64 q] 50)
 have KY := Known.made w2 50 #[.int .i64 p, .int .i64 q]
 replace hb := hb.alloc hb.size (.cells #[.int .i64 p, .int .i64 q] 50)
 have zz := hb2.size
 clear c0 c1 c2 x0 x1 d3 d4 d5 hC2 KR2 KI
 obtain ⟨c0, c1, c2⟩ := KN.three
 obtain ⟨x0, x1⟩ := KX.two
 obtain ⟨y0, y1⟩ := KY.two
 have hx2 : w1.heap.size < w2.heap.size := by simp at zz; omega
 have hn2 : w.heap.size < w2.heap.size := by omega
 go_wp2_with fail
 refine (hO _).mono ?_
 rintro e w3 ⟨rfl, hb3⟩
 replace hb := hb.then_ hb3
 replace KR := KR.on hb3
 clear c0 c1 c2 x0 x1 y0 y1 KX KN KY hO
 have q0 := KR.free 0
 have q1 := KR.free 1
 obtain ⟨r0, r1⟩ := KR.two
 have Kz : Known _ _ _ #[.int .i64 r.1, .int .i64 r.2.1] := (KR.put 0 (.int .i64 r.1)).put 1 (.int .i64 r.2.1)
 obtain ⟨z0, z1⟩ := Kz.two
 go_wp2_with fail
 exact bodyPost_ret (v := .tuple #[.agg #[.int .i64 r.1, .int .i64 r.2.1], .int .i64 r.2.2]) (by simp [results, Tryz.results89, go_sem, z0, z1]) rfl ⟨rfl, (hb.setCell (p := ⟨w.heap.size + 1, 0, none⟩) hl _).setCell (p := ⟨w.heap.size + 1, 1, none⟩) hl _⟩
theorem valR_err2 (op o1 s1 o2 s2 : ByteArray) (p1 p2 : Option Addr) (m1 m2 i : Nat) (x y : Int) (s : Int × Int × Int) (w : World) (hop : ¬ op = ⟨#[]⟩) (K : Known w i 108 #[.string o1, .string s1, .slice p1 m1 m1, .string o2, .string s2, .slice p2 m2 m2])
  (hA : SubV w o1 s1 p1 m1 (x, y, 0)) (hB : SubV w o2 s2 p2 m2 s) (hs : ¬ s.2.2 = 0) :
  Calls Tryz.prog 89 #[.agg #[.string op, .string ⟨#[]⟩, .slice (some ⟨i, 0, none⟩) 2 2]] w fun e w' => e = .returned (.tuple #[.agg #[.int .i64 0, .int .i64 0], .int .i64 s.2.2]) ∧ Below w.heap.size w w' := by
 have hz : (s.2.2 != 0) = true := by simpa using hs
 have he := str_emp hop
 have hb := WV_below op ⟨#[]⟩ (some ⟨i, 0, none⟩) 2 w
 have KN := WV_n op ⟨#[]⟩ (some ⟨i, 0, none⟩) 2 w
 have KR := WV_r op ⟨#[]⟩ (some ⟨i, 0, none⟩) 2 w
 have hC := hA _ hb
 have hi := K.lt
 have hl : w.heap.size ≤ w.heap.size + 1 := by omega
 unfold WV at hb KN KR hC
 obtain ⟨c0, c1, c2⟩ := KN.three
 have d0 := K.cell 0
 have d1 := K.cell 1
 have d2 := K.cell 2
 simp only [List.getElem?_toArray, List.getElem?_cons_zero, List.getElem?_cons_succ] at d0 d1 d2
 clear hA hop hs
 go_enter Tryz.func89, Tryz.ntmps89
 go_wp2_with fail
 refine hC.mono ?_
 rintro e w1 ⟨rfl, hb1⟩
 replace hb := hb.then_ hb1
 replace KN := (KN.on hb1).alloc (.cells #[.int .i64 x, .int .i64 y] 50)
 have KR1 := KR.on hb1
 have hrl := KR1.lt
 replace KR := KR1.alloc (.cells #[.int .i64 x, .int .i64 y] 50)
 have KI := K.on hb
 replace hb := hb.alloc hb.size (.cells #[.int .i64 x, .int .i64 y] 50)
 have hC2 := hB _ hb
 clear c0 c1 c2 d0 d1 d2 hC KR1 hB
 obtain ⟨c0, c1, c2⟩ := KN.three
 have d3 := KI.cell 3
 have d4 := KI.cell 4
 have d5 := KI.cell 5
 simp only [List.getElem?_toArray, List.getElem?_cons_zero, List.getElem?_cons_succ] at d3 d4 d5
 have hnl : w.heap.size < w1.heap.size := by omega
 have hil : i < w1.heap.size := by omega
 go_wp2_with fail
 refine hC2.mono ?_
 rintro e w2 ⟨rfl, hb2⟩
 replace hb := hb.then_ hb2
 have KR2 := KR.on hb2
 have hrl2 := KR2.lt
 clear c0 c1 c2 d3 d4 d5 hC2 KI KR KN
 have q0 := KR2.free 0
 have q1 := KR2.free 1
 obtain ⟨r0, r1⟩ := KR2.two
 have Kz : Known _ _ _ #[.int .i64 0, .int .i64 0] := ((KR2.put 0 (.int .i64 0)).put 1 (.int .i64 0)).alloc (.cells #[.int .i64 s.1, .int .i64 s.2.1] 50)
 obtain ⟨z0, z1⟩ := Kz.two
 go_wp2_with fail
 exact bodyPost_ret (v := .tuple #[.agg #[.int .i64 0, .int .i64 0], .int .i64 s.2.2]) (by simp [results, Tryz.results89, go_sem, z0, z1]) rfl ⟨rfl, ((hb.setCell (p := ⟨w.heap.size + 1, 0, none⟩) hl _).setCell (p := ⟨w.heap.size + 1, 1, none⟩) hl _).alloc (by simp; omega) _⟩
theorem refValue (q : Nat → Prop) {T : Form.Tree} {r : Int × Int × Int} (hv : ValB T r) : ∀ (o s : ByteArray) (p : Option Addr) (m : Nat) (w : World), NL q w T o s p m →
  Calls Tryz.prog 89 #[.agg #[.string o, .string s, .slice p m m]] w fun e w' => e = .returned (.tuple #[.agg #[.int .i64 r.1, .int .i64 r.2.1], .int .i64 r.2.2]) ∧ Below w.heap.size w w' := by
 induction hv with
 | num h h2 hv =>
   rintro o s p m w ⟨rfl, rfl, rfl, rfl⟩
   exact valR_num _ _ w h2
 | @un op a r hop h ih =>
   rintro o s p m w ⟨rfl, rfl, rfl, i, rfl, hq, o1, s1, p1, m1, K, hN⟩
   have hS : SubV w o1 s1 p1 m1 r := fun w0 hb => ih o1 s1 p1 m1 w0 (hN.on (fun i hi hl => ⟨hi, hb.block i hl⟩))
   by_cases h0 : r.2.2 = 0
   ·rw [if_pos h0]
    have hvr := h.val.ok h0
    obtain ⟨x, y, z⟩ := r
    simp only at h0
    subst h0
    exact valR_un _ o1 s1 p1 m1 i x y w hop K hS hvr
   ·rw [if_neg h0]
    have k0 := K.cell 0
    have k1 := K.cell 1
    have k2 := K.cell 2
    exact valR_err1 _ o1 s1 p1 m1 i 1 r [] w hop (by omega) K.lt k0 k1 k2 hS h0
 | @bin op a b r s hop h k ih1 ih2 =>
   rintro o u p m w ⟨rfl, rfl, rfl, i, rfl, hq, o1, s1, p1, m1, o2, s2, p2, m2, K, hN, hM⟩
   have hS : SubV w o1 s1 p1 m1 r := fun w0 hb => ih1 o1 s1 p1 m1 w0 (hN.on (fun i hi hl => ⟨hi, hb.block i hl⟩))
   have hS2 : SubV w o2 s2 p2 m2 s := fun w0 hb => ih2 o2 s2 p2 m2 w0 (hM.on (fun i hi hl => ⟨hi, hb.block i hl⟩))
   by_cases h0 : r.2.2 = 0
   ·rw [if_pos h0]
    have hvr := h.val.ok h0
    obtain ⟨x, y, z⟩ := r
    simp only at h0
    subst h0
    by_cases h1 : s.2.2 = 0
    ·rw [if_pos h1]
     have hvs := k.val.ok h1
     obtain ⟨x', y', z'⟩ := s
     simp only at h1
     subst h1
     exact valR_bin _ o1 s1 o2 s2 p1 p2 m1 m2 i x y x' y' w hop K hS hS2 hvr hvs
    ·rw [if_neg h1]
     exact valR_err2 _ o1 s1 o2 s2 p1 p2 m1 m2 i x y s w hop K hS hS2 h1
   ·rw [if_neg h0]
    have k0 := K.cell 0
    have k1 := K.cell 1
    have k2 := K.cell 2
    exact valR_err1 _ o1 s1 p1 m1 i 2 r [] w hop (by omega) K.lt k0 k1 k2 hS h0
end Go.Proofs.YtcklofamaooegaaGreatDoor
