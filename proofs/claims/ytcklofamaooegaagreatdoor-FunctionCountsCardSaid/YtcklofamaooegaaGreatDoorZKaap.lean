/-
  The claim's own texts, packed. Conditions: those typed in each theorem.
-/
import Derived.Test.YtcklofamaooegaaGreatDoorZKaak
import Derived.Test.YtcklofamaooegaaGreatDoorZKaal
import Derived.Test.YtcklofamaooegaaGreatDoorZKaaj
import Derived.Test.YtcklofamaooegaaGreatDoorZKaaf
set_option maxHeartbeats 4000000
set_option maxRecDepth 10000
set_option linter.unusedVariables false
namespace Go.Proofs.YtcklofamaooegaaGreatDoor
open Go.RowKit
def truthV (b : Bool) : Int := if b = true then 1 else 0
def wholeB (a b lo hi : Int) : Bool := decide (b = 1 ∧ lo ≤ a ∧ a ≤ hi)
def powV (a b : Int) : Nat → Int × Int × Int
 | 0 => (a, b, 0)
 | k + 1 => let r := powV a b k; if r.2.2 = 0 then (let m := mulV r.1 r.2.1 a b; if m.2.2 = 0 then m else (0, 0, m.2.2)) else r
def raiseV (a b c d : Int) : Int × Int × Int := if wholeB c d 0 30 = true then (if c = 0 then (1, 1, 0) else powV a b (c.toNat - 1)) else (0, 0, 2)
def roundsV (a b c d : Int) : Int × Int × Int := if wholeB c d 0 9 = true then roundV a b c else (0, 0, 2)
def signV (op : ByteArray) (a b : Int) : Int × Int × Int :=
 if op = ⟨#[45]⟩ then subV 0 1 a b else if op = ⟨#[110, 111, 116]⟩ then (truthV (a == 0), 1, 0)
 else if op = ⟨#[102, 108, 111, 111, 114]⟩ then (if (floorV a b).2 = 0 then (mkN (floorV a b).1 1, mkD (floorV a b).1 1, mkE (floorV a b).1 1) else (0, 0, (floorV a b).2)) else (a, b, 0)
def applyV (op : ByteArray) (a b c d : Int) : Int × Int × Int :=
 if op = ⟨#[43]⟩ then addV a b c d else if op = ⟨#[45]⟩ then subV a b c d else if op = ⟨#[42]⟩ then mulV a b c d else if op = ⟨#[47]⟩ then divV a b c d else if op = ⟨#[109, 111, 100]⟩ then modV a b c d
 else if op = ⟨#[94]⟩ then raiseV a b c d else if op = ⟨#[114, 111, 117, 110, 100]⟩ then roundsV a b c d
 else if op = ⟨#[61]⟩ then (truthV (cmpN a b c d == 0), 1, 0) else if op = ⟨#[60, 62]⟩ then (truthV (cmpN a b c d != 0), 1, 0) else if op = ⟨#[60]⟩ then (truthV (decide (cmpN a b c d < 0)), 1, 0)
 else if op = ⟨#[62]⟩ then (truthV (decide (0 < cmpN a b c d)), 1, 0) else if op = ⟨#[60, 61]⟩ then (truthV (decide (cmpN a b c d ≤ 0)), 1, 0) else if op = ⟨#[62, 61]⟩ then (truthV (decide (0 ≤ cmpN a b c d)), 1, 0)
 else if op = ⟨#[97, 110, 100]⟩ then (truthV (a != 0 && c != 0), 1, 0) else (truthV (a != 0 || c != 0), 1, 0)
theorem truth_true (w : World) :
  Calls Tryz.prog 173 #[.bool true] w fun e w' => e = .returned (.agg #[.int .i64 1, .int .i64 1]) ∧ Below w.heap.size w w' := by
 go_enter Tryz.func173, Tryz.ntmps173
 go_wp2_with fail
 exact bodyPost_ret (v := .agg #[.int .i64 1, .int .i64 1]) (by simp [results, Tryz.results173, go_sem]) rfl ⟨rfl, below_new0 _ _⟩
theorem truth_false (w : World) :
  Calls Tryz.prog 173 #[.bool false] w fun e w' => e = .returned (.agg #[.int .i64 0, .int .i64 1]) ∧ Below w.heap.size w w' := by
 go_enter Tryz.func173, Tryz.ntmps173
 go_wp2_with fail
 exact bodyPost_ret (v := .agg #[.int .i64 0, .int .i64 1]) (by simp [results, Tryz.results173, go_sem]) rfl ⟨rfl, below_new0 _ _⟩
theorem whole_any (a b lo hi : Int) (w : World) :
  Calls Tryz.prog 182 #[.agg #[.int .i64 a, .int .i64 b], .int .i64 lo, .int .i64 hi] w fun e w' => e = .returned (.tuple #[.int .i64 a, .bool (wholeB a b lo hi)]) ∧ Below w.heap.size w w' := by
 have hb := below_new0 w (.cells #[.int .i64 a, .int .i64 b] 50)
 have K := Known.made w 50 #[.int .i64 a, .int .i64 b]
 obtain ⟨k0, k1⟩ := K.two
 obtain ⟨d0, d1⟩ := (K.on (Below.refl _ _).drew).two
 by_cases g1 : b = 1
 ·by_cases g2 : lo ≤ a
  ·by_cases g3 : a ≤ hi
   ·have h1 : (b == 1) = true := by simpa using g1
    have h2 : decide (lo ≤ a) = true := by simpa using g2
    have h3 : decide (a ≤ hi) = true := by simpa using g3
    have hw : wholeB a b lo hi = true := by simp [wholeB, g1, g2, g3]
    rw [hw]
    clear g1 g2 g3
    go_enter Tryz.func182, Tryz.ntmps182
    go_wp2_with fail
    go_region
    all_goals (try go_wp2_with fail)
    go_ret2
    exact ⟨rfl, hb.drew⟩
   ·have h1 : (b == 1) = true := by simpa using g1
    have h2 : decide (lo ≤ a) = true := by simpa using g2
    have h3 : decide (a ≤ hi) = false := by simpa using g3
    have hw : wholeB a b lo hi = false := by simp [wholeB, g3]
    rw [hw]
    clear g1 g2 g3
    go_enter Tryz.func182, Tryz.ntmps182
    go_wp2_with fail
    go_region
    all_goals (try go_wp2_with fail)
    go_ret2
    exact ⟨rfl, hb.drew⟩
  ·have h1 : (b == 1) = true := by simpa using g1
   have h2 : decide (lo ≤ a) = false := by simpa using g2
   have hw : wholeB a b lo hi = false := by simp [wholeB, g2]
   rw [hw]
   clear g1 g2
   go_enter Tryz.func182, Tryz.ntmps182
   go_wp2_with fail
   go_region
   all_goals (try go_wp2_with fail)
   go_ret2
   exact ⟨rfl, hb.drew⟩
 ·have h1 : (b == 1) = false := by simpa using g1
  have hw : wholeB a b lo hi = false := by simp [wholeB, g1]
  rw [hw]
  clear g1
  go_enter Tryz.func182, Tryz.ntmps182
  go_wp2_with fail
  go_region
  all_goals (try go_wp2_with fail)
  go_ret2
  exact ⟨rfl, hb.drew⟩
theorem raise_no (a b c d : Int) (w : World) (h : wholeB c d 0 30 = false) :
  Calls Tryz.prog 181 #[.agg #[.int .i64 a, .int .i64 b], .agg #[.int .i64 c, .int .i64 d]] w fun e w' => e = .returned (.tuple #[.agg #[.int .i64 (0), .int .i64 (0)], .int .i64 (2)]) ∧ Below w.heap.size w w' := by
 have hW := fun w => whole_any c d 0 30 w
 rw [h] at hW
 go_enter Tryz.func181, Tryz.ntmps181
 go_wp2_with fail
 refine (hW _).mono ?_
 rintro e w1 ⟨rfl, hb1⟩
 change Below (W3 a b c d w).heap.size (W3 a b c d w) w1 at hb1
 have hb := (W3_below a b c d w).then_ hb1
 have KA := (W3_a a b c d w).on hb1
 have KB := (W3_b a b c d w).on hb1
 have KR := (W3_r a b c d w).on hb1
 have hl : w.heap.size ≤ w.heap.size + 1 + 1 := by omega
 obtain ⟨a10, a11⟩ := KA.two
 obtain ⟨b10, b11⟩ := KB.two
 have q0 := KR.free 0
 have q1 := KR.free 1
 obtain ⟨r0, r1⟩ := KR.two
 have Kz : Known _ _ _ #[.int .i64 (0), .int .i64 (0)] := (KR.put 0 (.int .i64 (0))).put 1 (.int .i64 (0))
 obtain ⟨z0, z1⟩ := Kz.two
 go_wp2_with fail
 exact bodyPost_ret (v := .tuple #[.agg #[.int .i64 (0), .int .i64 (0)], .int .i64 (2)]) (by simp [results, Tryz.results181, go_sem, z0, z1]) rfl ⟨rfl, (hb.setCell (p := ⟨w.heap.size + 1 + 1, 0, none⟩) hl _).setCell (p := ⟨w.heap.size + 1 + 1, 1, none⟩) hl _⟩
theorem raise_zero (a b c d : Int) (w : World) (h : wholeB c d 0 30 = true) (hc : c = 0) :
  Calls Tryz.prog 181 #[.agg #[.int .i64 a, .int .i64 b], .agg #[.int .i64 c, .int .i64 d]] w fun e w' => e = .returned (.tuple #[.agg #[.int .i64 (1), .int .i64 (1)], .int .i64 (0)]) ∧ Below w.heap.size w w' := by
 have hW := fun w => whole_any c d 0 30 w
 rw [h] at hW
 subst hc
 go_enter Tryz.func181, Tryz.ntmps181
 go_wp2_with fail
 refine (hW _).mono ?_
 rintro e w1 ⟨rfl, hb1⟩
 change Below (W3 a b 0 d w).heap.size (W3 a b 0 d w) w1 at hb1
 have hb := (W3_below a b 0 d w).then_ hb1
 have KA := (W3_a a b 0 d w).on hb1
 have KB := (W3_b a b 0 d w).on hb1
 have KR := (W3_r a b 0 d w).on hb1
 have hl : w.heap.size ≤ w.heap.size + 1 + 1 := by omega
 obtain ⟨a10, a11⟩ := KA.two
 obtain ⟨b10, b11⟩ := KB.two
 go_wp2_with fail
 refine (truth_true _).mono ?_
 rintro e w2 ⟨rfl, hb2⟩
 replace hb := hb.then_ hb2
 replace KA := KA.on hb2
 replace KB := KB.on hb2
 replace KR := KR.on hb2
 clear a10 a11 b10 b11
 obtain ⟨a10, a11⟩ := KA.two
 obtain ⟨b10, b11⟩ := KB.two
 have q0 := KR.free 0
 have q1 := KR.free 1
 obtain ⟨r0, r1⟩ := KR.two
 have Kz : Known _ _ _ #[.int .i64 (1), .int .i64 (1)] := (KR.put 0 (.int .i64 (1))).put 1 (.int .i64 (1))
 obtain ⟨z0, z1⟩ := Kz.two
 go_wp2_with fail
 exact bodyPost_ret (v := .tuple #[.agg #[.int .i64 (1), .int .i64 (1)], .int .i64 (0)]) (by simp [results, Tryz.results181, go_sem, z0, z1]) rfl ⟨rfl, (hb.setCell (p := ⟨w.heap.size + 1 + 1, 0, none⟩) hl _).setCell (p := ⟨w.heap.size + 1 + 1, 1, none⟩) hl _⟩
theorem powV_err {a b : Int} {k : Nat} (h : (powV a b k).2.2 ≠ 0) : ∀ m, powV a b (k + m) = powV a b k := by
 intro m
 induction m with
 | zero => rfl
 | succ m ih =>
   rw [← Nat.add_assoc, powV]
   simp only [ih, h, if_false]
theorem red_ok' {n m : Int} (hm : m ≠ 0) (h : (Num.red n m).2.2 = 0) : Num.val (Num.red n m).1 (Num.red n m).2.1 = true := (Num.red_ok hm h).1
theorem mulV_ok {a b c d : Int} (v1 : Num.val a b = true) (v2 : Num.val c d = true) (h : (mulV a b c d).2.2 = 0) : Num.val (mulV a b c d).1 (mulV a b c d).2.1 = true := by
 unfold mulV at h ⊢
 rw [opV_ok v1 v2 (.inl rfl)] at h ⊢
 exact red_ok' (Int.mul_ne_zero (val_pos v1).1 (val_pos v2).1) h
theorem powV_ok {a b : Int} (v : Num.val a b = true) (k : Nat) : (powV a b k).2.2 = 0 → Num.val (powV a b k).1 (powV a b k).2.1 = true := by
 induction k with
 | zero => intro _; exact v
 | succ k ih =>
   rw [powV]
   simp only
   split
   ·rename_i h
    split
    ·rename_i h2; intro _; exact mulV_ok (ih h) v h2
    ·rename_i h2; intro h3; exact absurd h3 h2
   ·rename_i h; intro h2; exact absurd h2 h
theorem Known.setNum {w : World} {g : Nat} {t : TypeId} {x y u v : Int} (h : Known w g t #[.int .i64 x, .int .i64 y]) :
  Known ((w.setCell ⟨g, 0, none⟩ (.int .i64 u)).setCell ⟨g, 1, none⟩ (.int .i64 v)) g t #[.int .i64 u, .int .i64 v] := (h.put 0 (.int .i64 u)).put 1 (.int .i64 v)
theorem Known.setFar {w : World} {g k : Nat} {t : TypeId} {cs : Array Value} {u v : Int} (h : Known w g t cs) (hk : g ≠ k) :
  Known ((w.setCell ⟨k, 0, none⟩ (.int .i64 u)).setCell ⟨k, 1, none⟩ (.int .i64 v)) g t cs := (h.far (p := ⟨k, 0, none⟩) hk _).far (p := ⟨k, 1, none⟩) hk _
theorem raise_pow (a b c d : Int) (w : World) (h : wholeB c d 0 30 = true) (hc : 0 < c) (v : Num.val a b = true) :
  Calls Tryz.prog 181 #[.agg #[.int .i64 a, .int .i64 b], .agg #[.int .i64 c, .int .i64 d]] w fun e w' => e = .returned (.tuple #[.agg #[.int .i64 ((powV a b (c.toNat - 1)).1), .int .i64 ((powV a b (c.toNat - 1)).2.1)], .int .i64 ((powV a b (c.toNat - 1)).2.2)]) ∧ Below w.heap.size w w' := by
 have hW := fun w => whole_any c d 0 30 w
 rw [h] at hW
 have hc30 : c ≤ 30 := by simp [wholeB] at h; omega
 obtain ⟨m, hm⟩ : ∃ m : Nat, c = m + 1 := ⟨c.toNat - 1, by omega⟩
 have hm1 : c.toNat - 1 = m := by omega
 have hm30 : m ≤ 29 := by omega
 rw [hm1]
 have HM := Lib.hid hm
 have hc' : (c == 0) = false := by simp; omega
 have hv := val_i64 v
 obtain ⟨R, hR⟩ : ∃ R, powV a b m = R := ⟨_, rfl⟩
 rw [hR]
 have HR := Lib.hid hR
 clear hm hR hm1 h
 go_enter Tryz.func181, Tryz.ntmps181
 go_wp2_with fail
 refine (hW _).mono ?_
 rintro e w1 ⟨rfl, hb1⟩
 change Below (W3 a b c d w).heap.size (W3 a b c d w) w1 at hb1
 have hb := (W3_below a b c d w).then_ hb1
 have KA := (W3_a a b c d w).on hb1
 have KB := (W3_b a b c d w).on hb1
 have KR := (W3_r a b c d w).on hb1
 have hl : w.heap.size ≤ w.heap.size + 1 + 1 := by omega
 obtain ⟨a10, a11⟩ := KA.two
 obtain ⟨b10, b11⟩ := KB.two
 have hwl := KA.lt
 have hb2 := hb.alloc hb.size (.cells #[.int .i64 a, .int .i64 b] 50)
 have KO := Known.made w1 50 #[.int .i64 a, .int .i64 b]
 replace KA := KA.alloc (.cells #[.int .i64 a, .int .i64 b] 50)
 replace KR := KR.alloc (.cells #[.int .i64 a, .int .i64 b] 50)
 have hrl := KR.lt
 clear KB b10 b11
 go_wp2_with fail
 go_loopg [9, 24] (m + 1) (fun q s9 s24 wr => ∃ (k : Nat), k ≤ m ∧ m - k < q ∧ (powV a b k).2.2 = 0 ∧ s24 = .int .i64 k ∧ Known wr w1.heap.size 50 #[.int .i64 (powV a b k).1, .int .i64 (powV a b k).2.1] ∧ Known wr w.heap.size 50 #[.int .i64 a, .int .i64 b] ∧ Known wr (w.heap.size + 1 + 1) 50 #[.int .i64 0, .int .i64 0] ∧ Below w.heap.size w wr)
 case atStart => exact ⟨0, by omega, by omega, rfl, rfl, KO, KA, KR, hb2⟩
 case round =>
  obtain ⟨k, hk, hq, he, rfl, ko, ka, kr, hbr⟩ := hrel
  have hcm : c - 1 = (m : Int) := by have := HM.out; omega
  have hvk := powV_ok v k he
  have hik := val_i64 hvk
  have hsz : w1.heap.size ≠ w.heap.size ∧ w1.heap.size ≠ w.heap.size + 1 + 1 := by
   have h1 := (W3_r a b c d w).lt
   have := hb1.size
   constructor <;> omega
  by_cases hlt : k < m
  ·have hM := mulP_any (powV a b k).1 (powV a b k).2.1 a b hik.1 hik.2 hv.1 hv.2
   unfold Ret args2 at hM
   have hst : powV a b (k + 1) = (if (mulV (powV a b k).1 (powV a b k).2.1 a b).2.2 = 0 then mulV (powV a b k).1 (powV a b k).2.1 a b else (0, 0, (mulV (powV a b k).1 (powV a b k).2.1 a b).2.2)) := by
    rw [powV]; simp only [he, if_true]
   generalize hMe : mulV (powV a b k).1 (powV a b k).2.1 a b = M at *
   generalize (powV a b k).1 = x at *
   generalize (powV a b k).2.1 = y at *
   obtain ⟨o0, o1⟩ := ko.two
   obtain ⟨p0, p1⟩ := ka.two
   have dl : decide ((k : Int) < c - 1) = true := by rw [decide_eq_true_eq, hcm]; omega
   have HS := Lib.hid hst
   clear hst hMe he hvk hik KO KA KR hb2 hb hcm
   go_wp2_with fail
   refine (hM _).mono ?_
   rintro e w2 ⟨rfl, hbm⟩
   replace ko := ko.on hbm
   replace ka := ka.on hbm
   replace kr := kr.on hbm
   replace hbr := hbr.then_ hbm
   clear o0 o1 p0 p1
   obtain ⟨o0, o1⟩ := ko.two
   have f0 := ko.free 0
   have f1 := ko.free 1
   have hw1 : w.heap.size ≤ w1.heap.size := by have := (W3_a a b c d w).lt; have := hb1.size; omega
   by_cases hz : M.2.2 = 0
   ·have hz' : (M.2.2 == 0) = true := by simpa using hz
    go_wp2_with fail
    go_roundg (m - (k + 1) + 1)
    case measure => omega
    case rel =>
     have e1 : powV a b (k + 1) = M := by rw [HS.out, if_pos hz]
     refine ⟨k + 1, by omega, by omega, by rw [e1]; exact hz, by go_num, ?_, ka.setFar hsz.1.symm, kr.setFar hsz.2.symm, (hbr.setCell (p := ⟨w1.heap.size, 0, none⟩) hw1 _).setCell (p := ⟨w1.heap.size, 1, none⟩) hw1 _⟩
     rw [e1]
     exact ko.setNum
   ·have hz' : (M.2.2 == 0) = false := by simpa using hz
    have e1 : powV a b (k + 1) = (0, 0, M.2.2) := by rw [HS.out, if_neg hz]
    have e2 : R = (0, 0, M.2.2) := by
     have h3 := powV_err (a := a) (b := b) (k := k + 1) (by rw [e1]; exact hz) (m - (k + 1))
     rw [show k + 1 + (m - (k + 1)) = m by omega, HR.out] at h3
     rw [h3, e1]
    have kr2 : Known ((w2.setCell ⟨w1.heap.size, 0, none⟩ (.int .i64 M.1)).setCell ⟨w1.heap.size, 1, none⟩ (.int .i64 M.2.1)) (w.heap.size + 1 + 1) 50 #[.int .i64 0, .int .i64 0] := kr.setFar hsz.2.symm
    obtain ⟨r0, r1⟩ := kr2.two
    have g0 := kr2.free 0
    have g1 := kr2.free 1
    have Kz : Known _ _ _ #[.int .i64 0, .int .i64 0] := (kr2.put 0 (.int .i64 0)).put 1 (.int .i64 0)
    obtain ⟨z0, z1⟩ := Kz.two
    subst e2
    clear HS e1 HR
    go_wp2_with fail
    exact bodyPost_ret (v := .tuple #[.agg #[.int .i64 0, .int .i64 0], .int .i64 M.2.2]) (by simp [results, Tryz.results181, go_sem, z0, z1]) rfl ⟨rfl, (((hbr.setCell (p := ⟨w1.heap.size, 0, none⟩) hw1 _).setCell (p := ⟨w1.heap.size, 1, none⟩) hw1 _).setCell (p := ⟨w.heap.size + 1 + 1, 0, none⟩) hl _).setCell (p := ⟨w.heap.size + 1 + 1, 1, none⟩) hl _⟩
  ·obtain rfl : k = m := by omega
   have e2 : R = powV a b k := HR.out.symm
   subst e2
   have dl : decide ((k : Int) < c - 1) = false := by rw [decide_eq_false_iff_not, hcm]; omega
   clear hcm HR
   obtain ⟨o0, o1⟩ := ko.two
   obtain ⟨r0, r1⟩ := kr.two
   have g0 := kr.free 0
   have g1 := kr.free 1
   have Kz : Known _ _ _ #[.int .i64 (powV a b k).1, .int .i64 (powV a b k).2.1] := (kr.put 0 (.int .i64 (powV a b k).1)).put 1 (.int .i64 (powV a b k).2.1)
   obtain ⟨z0, z1⟩ := Kz.two
   have HE := Lib.hid he
   clear HM KO KA KR hb2 hb hvk hik he
   go_wp2_with fail
   exact bodyPost_ret (v := .tuple #[.agg #[.int .i64 (powV a b k).1, .int .i64 (powV a b k).2.1], .int .i64 0]) (by simp [results, Tryz.results181, go_sem, z0, z1]) rfl ⟨by rw [HE.out], (hbr.setCell (p := ⟨w.heap.size + 1 + 1, 0, none⟩) hl _).setCell (p := ⟨w.heap.size + 1 + 1, 1, none⟩) hl _⟩
theorem raise_any (a b c d : Int) (v : Num.val a b = true) : Ret 181 (args2 a b c d) (raiseV a b c d) := by
 intro w
 unfold raiseV
 cases h : wholeB c d 0 30
 ·exact raise_no a b c d w h
 ·rw [if_pos rfl]
  by_cases hc : c = 0
  ·rw [if_pos hc]
   exact raise_zero a b c d w h hc
  ·rw [if_neg hc]
   exact raise_pow a b c d w h (by simp [wholeB] at h; omega) v
theorem sign_minus (a b : Int) (w : World) (i1 : I64 a) (i2 : I64 b) :
  Calls Tryz.prog 113 #[.string ⟨#[45]⟩, .agg #[.int .i64 a, .int .i64 b]] w fun e w' => e = .returned (.tuple #[.agg #[.int .i64 ((subV 0 1 a b).1), .int .i64 ((subV 0 1 a b).2.1)], .int .i64 ((subV 0 1 a b).2.2)]) ∧ Below w.heap.size w w' := by
 have hS := subP_any 0 1 a b (by unfold I64; omega) (by unfold I64; omega) i1 i2
 unfold Ret args2 at hS
 generalize subV 0 1 a b = R at *
 have hT := truth_false
 have hb := W2_below a b w
 have KA := W2_a a b w
 have KR := W2_r a b w
 have hl : w.heap.size ≤ w.heap.size + 1 := by omega
 unfold W2 at hb KA KR
 obtain ⟨a10, a11⟩ := KA.two
 go_enter Tryz.func113, Tryz.ntmps113
 go_wp2_with fail
 refine wp_region_gr_tail 5 (by kernel_rfl) (by kernel_rfl) ?_
 simp only [List.take_succ_cons, List.take_zero, List.drop_succ_cons, List.drop_zero]
 repeat (go_big_quiet_step (first | (go_at_call 173; with_reducible exact gr_call (hT _)) | (go_at_call 172; with_reducible exact gr_call (hS _))))
 refine wpQuiet_nil ?_
 intro _ hw'; obtain ⟨w5, hw''⟩ := hw'; subst hw''
 have hBel := gr_below (W2 a b w) w5
 unfold W2 at hBel
 generalize gr ((w.alloc (.cells #[.int .i64 a, .int .i64 b] 50)).alloc (.cells #[.int .i64 0, .int .i64 0] 50)) w5 = w3 at *
 replace hb := hb.then_ hBel
 replace KR := KR.on hBel
 have q0 := KR.free 0
 have q1 := KR.free 1
 obtain ⟨r0, r1⟩ := KR.two
 have Kz : Known _ _ _ #[.int .i64 (R.1), .int .i64 (R.2.1)] := (KR.put 0 (.int .i64 (R.1))).put 1 (.int .i64 (R.2.1))
 obtain ⟨z0, z1⟩ := Kz.two
 go_wp2_with fail
 exact bodyPost_ret (v := .tuple #[.agg #[.int .i64 (R.1), .int .i64 (R.2.1)], .int .i64 (R.2.2)]) (by simp [results, Tryz.results113, go_sem, z0, z1]) rfl ⟨rfl, (hb.setCell (p := ⟨w.heap.size + 1, 0, none⟩) hl _).setCell (p := ⟨w.heap.size + 1, 1, none⟩) hl _⟩
theorem sign_not1 (a b : Int) (w : World) (ha : a = 0) :
  Calls Tryz.prog 113 #[.string ⟨#[110, 111, 116]⟩, .agg #[.int .i64 a, .int .i64 b]] w fun e w' => e = .returned (.tuple #[.agg #[.int .i64 (1), .int .i64 (1)], .int .i64 (0)]) ∧ Below w.heap.size w w' := by
 have g : (a == 0) = true := by simpa using ha
 subst ha
 have hb := W2_below 0 b w
 have KA := W2_a 0 b w
 have KR := W2_r 0 b w
 have hl : w.heap.size ≤ w.heap.size + 1 := by omega
 unfold W2 at hb KA KR
 obtain ⟨a10, a11⟩ := KA.two
 go_enter Tryz.func113, Tryz.ntmps113
 go_wp2_with fail
 refine (truth_true _).mono ?_
 rintro e w1 ⟨rfl, hb1⟩
 replace hb := hb.then_ hb1
 replace KA := KA.on hb1
 replace KR := KR.on hb1
 clear a10 a11
 obtain ⟨a10, a11⟩ := KA.two
 have q0 := KR.free 0
 have q1 := KR.free 1
 obtain ⟨r0, r1⟩ := KR.two
 have Kz : Known _ _ _ #[.int .i64 (1), .int .i64 (1)] := (KR.put 0 (.int .i64 (1))).put 1 (.int .i64 (1))
 obtain ⟨z0, z1⟩ := Kz.two
 go_wp2_with fail
 exact bodyPost_ret (v := .tuple #[.agg #[.int .i64 (1), .int .i64 (1)], .int .i64 (0)]) (by simp [results, Tryz.results113, go_sem, z0, z1]) rfl ⟨rfl, (hb.setCell (p := ⟨w.heap.size + 1, 0, none⟩) hl _).setCell (p := ⟨w.heap.size + 1, 1, none⟩) hl _⟩
theorem sign_not0 (a b : Int) (w : World) (ha : ¬ a = 0) :
  Calls Tryz.prog 113 #[.string ⟨#[110, 111, 116]⟩, .agg #[.int .i64 a, .int .i64 b]] w fun e w' => e = .returned (.tuple #[.agg #[.int .i64 (0), .int .i64 (1)], .int .i64 (0)]) ∧ Below w.heap.size w w' := by
 have g : (a == 0) = false := by simpa using ha
 have hb := W2_below a b w
 have KA := W2_a a b w
 have KR := W2_r a b w
 have hl : w.heap.size ≤ w.heap.size + 1 := by omega
 unfold W2 at hb KA KR
 obtain ⟨a10, a11⟩ := KA.two
 go_enter Tryz.func113, Tryz.ntmps113
 go_wp2_with fail
 refine (truth_false _).mono ?_
 rintro e w1 ⟨rfl, hb1⟩
 replace hb := hb.then_ hb1
 replace KA := KA.on hb1
 replace KR := KR.on hb1
 clear a10 a11
 obtain ⟨a10, a11⟩ := KA.two
 have q0 := KR.free 0
 have q1 := KR.free 1
 obtain ⟨r0, r1⟩ := KR.two
 have Kz : Known _ _ _ #[.int .i64 (0), .int .i64 (1)] := (KR.put 0 (.int .i64 (0))).put 1 (.int .i64 (1))
 obtain ⟨z0, z1⟩ := Kz.two
 go_wp2_with fail
 exact bodyPost_ret (v := .tuple #[.agg #[.int .i64 (0), .int .i64 (1)], .int .i64 (0)]) (by simp [results, Tryz.results113, go_sem, z0, z1]) rfl ⟨rfl, (hb.setCell (p := ⟨w.heap.size + 1, 0, none⟩) hl _).setCell (p := ⟨w.heap.size + 1, 1, none⟩) hl _⟩
theorem sign_floor_no (a b : Int) (w : World) (i1 : I64 a) (i2 : I64 b) (h : ¬ (floorV a b).2 = 0) :
  Calls Tryz.prog 113 #[.string ⟨#[102, 108, 111, 111, 114]⟩, .agg #[.int .i64 a, .int .i64 b]] w fun e w' => e = .returned (.tuple #[.agg #[.int .i64 (0), .int .i64 (0)], .int .i64 ((floorV a b).2)]) ∧ Below w.heap.size w w' := by
 have hF := fun w => floorP_any a b w i1 i2
 generalize floorV a b = R at *
 have g : (R.2 == 0) = false := by simpa using h
 have hb := W2_below a b w
 have KA := W2_a a b w
 have KR := W2_r a b w
 have hl : w.heap.size ≤ w.heap.size + 1 := by omega
 unfold W2 at hb KA KR
 obtain ⟨a10, a11⟩ := KA.two
 go_enter Tryz.func113, Tryz.ntmps113
 go_wp2_with fail
 refine (hF _).mono ?_
 rintro e w1 ⟨rfl, hb1⟩
 replace hb := hb.then_ hb1
 replace KA := KA.on hb1
 replace KR := KR.on hb1
 clear a10 a11
 obtain ⟨a10, a11⟩ := KA.two
 have q0 := KR.free 0
 have q1 := KR.free 1
 obtain ⟨r0, r1⟩ := KR.two
 have Kz : Known _ _ _ #[.int .i64 (0), .int .i64 (0)] := (KR.put 0 (.int .i64 (0))).put 1 (.int .i64 (0))
 obtain ⟨z0, z1⟩ := Kz.two
 go_wp2_with fail
 exact bodyPost_ret (v := .tuple #[.agg #[.int .i64 (0), .int .i64 (0)], .int .i64 (R.2)]) (by simp [results, Tryz.results113, go_sem, z0, z1]) rfl ⟨rfl, (hb.setCell (p := ⟨w.heap.size + 1, 0, none⟩) hl _).setCell (p := ⟨w.heap.size + 1, 1, none⟩) hl _⟩
theorem sign_floor (a b : Int) (w : World) (i1 : I64 a) (i2 : I64 b) (h : (floorV a b).2 = 0) :
  Calls Tryz.prog 113 #[.string ⟨#[102, 108, 111, 111, 114]⟩, .agg #[.int .i64 a, .int .i64 b]] w fun e w' => e = .returned (.tuple #[.agg #[.int .i64 (mkN (floorV a b).1 1), .int .i64 (mkD (floorV a b).1 1)], .int .i64 (mkE (floorV a b).1 1)]) ∧ Below w.heap.size w w' := by
 have hF := fun w => floorP_any a b w i1 i2
 generalize floorV a b = R at *
 obtain ⟨x, y⟩ := R
 simp only at h hF ⊢
 subst h
 have hM := make_any x 1
 generalize mkN x 1 = mn at *
 generalize mkD x 1 = md at *
 generalize mkE x 1 = me at *
 have hb := W2_below a b w
 have KA := W2_a a b w
 have KR := W2_r a b w
 have hl : w.heap.size ≤ w.heap.size + 1 := by omega
 unfold W2 at hb KA KR
 obtain ⟨a10, a11⟩ := KA.two
 go_enter Tryz.func113, Tryz.ntmps113
 go_wp2_with fail
 refine (hF _).mono ?_
 rintro e w1 ⟨rfl, hb1⟩
 replace hb := hb.then_ hb1
 replace KA := KA.on hb1
 replace KR := KR.on hb1
 clear a10 a11
 obtain ⟨a10, a11⟩ := KA.two
 go_wp2_with fail
 refine (hM _).mono ?_
 rintro e w2 ⟨rfl, hb2⟩
 replace hb := hb.then_ hb2
 replace KA := KA.on hb2
 replace KR := KR.on hb2
 clear a10 a11
 obtain ⟨a10, a11⟩ := KA.two
 have q0 := KR.free 0
 have q1 := KR.free 1
 obtain ⟨r0, r1⟩ := KR.two
 have Kz : Known _ _ _ #[.int .i64 (mn), .int .i64 (md)] := (KR.put 0 (.int .i64 (mn))).put 1 (.int .i64 (md))
 obtain ⟨z0, z1⟩ := Kz.two
 go_wp2_with fail
 exact bodyPost_ret (v := .tuple #[.agg #[.int .i64 (mn), .int .i64 (md)], .int .i64 (me)]) (by simp [results, Tryz.results113, go_sem, z0, z1]) rfl ⟨rfl, (hb.setCell (p := ⟨w.heap.size + 1, 0, none⟩) hl _).setCell (p := ⟨w.heap.size + 1, 1, none⟩) hl _⟩
theorem sign_same (op : ByteArray) (a b : Int) (w : World) (h1 : (op.toList == [45]) = false) (h2 : (op.toList == [110, 111, 116]) = false) (h3 : (op.toList == [102, 108, 111, 111, 114]) = false) :
  Calls Tryz.prog 113 #[.string op, .agg #[.int .i64 a, .int .i64 b]] w fun e w' => e = .returned (.tuple #[.agg #[.int .i64 (a), .int .i64 (b)], .int .i64 (0)]) ∧ Below w.heap.size w w' := by
 have hb := W2_below a b w
 have KA := W2_a a b w
 have KR := W2_r a b w
 have hl : w.heap.size ≤ w.heap.size + 1 := by omega
 unfold W2 at hb KA KR
 obtain ⟨a10, a11⟩ := KA.two
 go_enter Tryz.func113, Tryz.ntmps113
 go_wp2_with fail
 exact bodyPost_ret (v := .tuple #[.agg #[.int .i64 a, .int .i64 b], .int .i64 0]) (by simp [results, Tryz.results113, go_sem]) rfl ⟨rfl, (below_new0 _ _).then_ (below_new0 _ _)⟩
theorem str_nel {a : ByteArray} {l : List UInt8} (h : ¬ a = ⟨l.toArray⟩) : (a.toList == l) = false := by
 rw [beq_eq_false_iff_ne, ByteArray.toList_eq]
 intro e
 exact h (ByteArray.ext (Array.toList_inj.1 (by simpa using e)))
theorem sign_any (op : ByteArray) (a b : Int) (i1 : I64 a) (i2 : I64 b) : Ret 113 #[.string op, .agg #[.int .i64 a, .int .i64 b]] (signV op a b) := by
 intro w
 unfold signV
 by_cases h1 : op = ⟨#[45]⟩
 ·rw [if_pos h1]; subst h1; exact sign_minus a b w i1 i2
 rw [if_neg h1]
 by_cases h2 : op = ⟨#[110, 111, 116]⟩
 ·rw [if_pos h2]; subst h2
  by_cases ha : a = 0
  ·subst ha; exact sign_not1 0 b w rfl
  ·have g : (a == 0) = false := by simpa using ha
   rw [g]; exact sign_not0 a b w ha
 rw [if_neg h2]
 by_cases h3 : op = ⟨#[102, 108, 111, 111, 114]⟩
 ·rw [if_pos h3]; subst h3
  by_cases hf : (floorV a b).2 = 0
  ·rw [if_pos hf]; exact sign_floor a b w i1 i2 hf
  ·rw [if_neg hf]; exact sign_floor_no a b w i1 i2 hf
 rw [if_neg h3]
 exact sign_same op a b w (str_nel h1) (str_nel h2) (str_nel h3)
theorem apply_plus (a b c d : Int) (w : World) (i1 : I64 a) (i2 : I64 b) (i3 : I64 c) (i4 : I64 d)  :
  Calls Tryz.prog 114 #[.string ⟨#[43]⟩, .agg #[.int .i64 a, .int .i64 b], .agg #[.int .i64 c, .int .i64 d]] w fun e w' => e = .returned (.tuple #[.agg #[.int .i64 ((addV a b c d).1), .int .i64 ((addV a b c d).2.1)], .int .i64 ((addV a b c d).2.2)]) ∧ Below w.heap.size w w' := by
 have hC := cmp_any a b c d i1 i2 i3 i4
 unfold RetI at hC
 have hX := addP_any a b c d i1 i2 i3 i4
 unfold Ret args2 at hX
 generalize addV a b c d = R at *
 generalize cmpN a b c d = C at *
 go_enter Tryz.func114, Tryz.ntmps114
 go_wp2_with fail
 refine (hC _).mono ?_
 rintro e w1 ⟨rfl, hb1⟩
 change Below (W3 a b c d w).heap.size (W3 a b c d w) w1 at hb1
 have hb := (W3_below a b c d w).then_ hb1
 have KA := (W3_a a b c d w).on hb1
 have KB := (W3_b a b c d w).on hb1
 have KR := (W3_r a b c d w).on hb1
 have hl : w.heap.size ≤ w.heap.size + 1 + 1 := by omega
 obtain ⟨a10, a11⟩ := KA.two
 obtain ⟨b10, b11⟩ := KB.two
 go_wp2_with fail
 refine (hX _).mono ?_
 rintro e w2 ⟨rfl, hb2⟩
 replace hb := hb.then_ hb2
 replace KA := KA.on hb2
 replace KB := KB.on hb2
 replace KR := KR.on hb2
 clear a10 a11 b10 b11
 obtain ⟨a10, a11⟩ := KA.two
 obtain ⟨b10, b11⟩ := KB.two
 have q0 := KR.free 0
 have q1 := KR.free 1
 obtain ⟨r0, r1⟩ := KR.two
 have Kz : Known _ _ _ #[.int .i64 (R.1), .int .i64 (R.2.1)] := (KR.put 0 (.int .i64 (R.1))).put 1 (.int .i64 (R.2.1))
 obtain ⟨z0, z1⟩ := Kz.two
 go_wp2_with fail
 exact bodyPost_ret (v := .tuple #[.agg #[.int .i64 (R.1), .int .i64 (R.2.1)], .int .i64 (R.2.2)]) (by simp [results, Tryz.results114, go_sem, z0, z1]) rfl ⟨rfl, (hb.setCell (p := ⟨w.heap.size + 1 + 1, 0, none⟩) hl _).setCell (p := ⟨w.heap.size + 1 + 1, 1, none⟩) hl _⟩
theorem apply_minus (a b c d : Int) (w : World) (i1 : I64 a) (i2 : I64 b) (i3 : I64 c) (i4 : I64 d)  :
  Calls Tryz.prog 114 #[.string ⟨#[45]⟩, .agg #[.int .i64 a, .int .i64 b], .agg #[.int .i64 c, .int .i64 d]] w fun e w' => e = .returned (.tuple #[.agg #[.int .i64 ((subV a b c d).1), .int .i64 ((subV a b c d).2.1)], .int .i64 ((subV a b c d).2.2)]) ∧ Below w.heap.size w w' := by
 have hC := cmp_any a b c d i1 i2 i3 i4
 unfold RetI at hC
 have hX := subP_any a b c d i1 i2 i3 i4
 unfold Ret args2 at hX
 generalize subV a b c d = R at *
 generalize cmpN a b c d = C at *
 go_enter Tryz.func114, Tryz.ntmps114
 go_wp2_with fail
 refine (hC _).mono ?_
 rintro e w1 ⟨rfl, hb1⟩
 change Below (W3 a b c d w).heap.size (W3 a b c d w) w1 at hb1
 have hb := (W3_below a b c d w).then_ hb1
 have KA := (W3_a a b c d w).on hb1
 have KB := (W3_b a b c d w).on hb1
 have KR := (W3_r a b c d w).on hb1
 have hl : w.heap.size ≤ w.heap.size + 1 + 1 := by omega
 obtain ⟨a10, a11⟩ := KA.two
 obtain ⟨b10, b11⟩ := KB.two
 go_wp2_with fail
 refine (hX _).mono ?_
 rintro e w2 ⟨rfl, hb2⟩
 replace hb := hb.then_ hb2
 replace KA := KA.on hb2
 replace KB := KB.on hb2
 replace KR := KR.on hb2
 clear a10 a11 b10 b11
 obtain ⟨a10, a11⟩ := KA.two
 obtain ⟨b10, b11⟩ := KB.two
 have q0 := KR.free 0
 have q1 := KR.free 1
 obtain ⟨r0, r1⟩ := KR.two
 have Kz : Known _ _ _ #[.int .i64 (R.1), .int .i64 (R.2.1)] := (KR.put 0 (.int .i64 (R.1))).put 1 (.int .i64 (R.2.1))
 obtain ⟨z0, z1⟩ := Kz.two
 go_wp2_with fail
 exact bodyPost_ret (v := .tuple #[.agg #[.int .i64 (R.1), .int .i64 (R.2.1)], .int .i64 (R.2.2)]) (by simp [results, Tryz.results114, go_sem, z0, z1]) rfl ⟨rfl, (hb.setCell (p := ⟨w.heap.size + 1 + 1, 0, none⟩) hl _).setCell (p := ⟨w.heap.size + 1 + 1, 1, none⟩) hl _⟩
theorem apply_times (a b c d : Int) (w : World) (i1 : I64 a) (i2 : I64 b) (i3 : I64 c) (i4 : I64 d)  :
  Calls Tryz.prog 114 #[.string ⟨#[42]⟩, .agg #[.int .i64 a, .int .i64 b], .agg #[.int .i64 c, .int .i64 d]] w fun e w' => e = .returned (.tuple #[.agg #[.int .i64 ((mulV a b c d).1), .int .i64 ((mulV a b c d).2.1)], .int .i64 ((mulV a b c d).2.2)]) ∧ Below w.heap.size w w' := by
 have hC := cmp_any a b c d i1 i2 i3 i4
 unfold RetI at hC
 have hX := mulP_any a b c d i1 i2 i3 i4
 unfold Ret args2 at hX
 generalize mulV a b c d = R at *
 generalize cmpN a b c d = C at *
 go_enter Tryz.func114, Tryz.ntmps114
 go_wp2_with fail
 refine (hC _).mono ?_
 rintro e w1 ⟨rfl, hb1⟩
 change Below (W3 a b c d w).heap.size (W3 a b c d w) w1 at hb1
 have hb := (W3_below a b c d w).then_ hb1
 have KA := (W3_a a b c d w).on hb1
 have KB := (W3_b a b c d w).on hb1
 have KR := (W3_r a b c d w).on hb1
 have hl : w.heap.size ≤ w.heap.size + 1 + 1 := by omega
 obtain ⟨a10, a11⟩ := KA.two
 obtain ⟨b10, b11⟩ := KB.two
 go_wp2_with fail
 refine (hX _).mono ?_
 rintro e w2 ⟨rfl, hb2⟩
 replace hb := hb.then_ hb2
 replace KA := KA.on hb2
 replace KB := KB.on hb2
 replace KR := KR.on hb2
 clear a10 a11 b10 b11
 obtain ⟨a10, a11⟩ := KA.two
 obtain ⟨b10, b11⟩ := KB.two
 have q0 := KR.free 0
 have q1 := KR.free 1
 obtain ⟨r0, r1⟩ := KR.two
 have Kz : Known _ _ _ #[.int .i64 (R.1), .int .i64 (R.2.1)] := (KR.put 0 (.int .i64 (R.1))).put 1 (.int .i64 (R.2.1))
 obtain ⟨z0, z1⟩ := Kz.two
 go_wp2_with fail
 exact bodyPost_ret (v := .tuple #[.agg #[.int .i64 (R.1), .int .i64 (R.2.1)], .int .i64 (R.2.2)]) (by simp [results, Tryz.results114, go_sem, z0, z1]) rfl ⟨rfl, (hb.setCell (p := ⟨w.heap.size + 1 + 1, 0, none⟩) hl _).setCell (p := ⟨w.heap.size + 1 + 1, 1, none⟩) hl _⟩
theorem apply_over (a b c d : Int) (w : World) (i1 : I64 a) (i2 : I64 b) (i3 : I64 c) (i4 : I64 d)  :
  Calls Tryz.prog 114 #[.string ⟨#[47]⟩, .agg #[.int .i64 a, .int .i64 b], .agg #[.int .i64 c, .int .i64 d]] w fun e w' => e = .returned (.tuple #[.agg #[.int .i64 ((divV a b c d).1), .int .i64 ((divV a b c d).2.1)], .int .i64 ((divV a b c d).2.2)]) ∧ Below w.heap.size w w' := by
 have hC := cmp_any a b c d i1 i2 i3 i4
 unfold RetI at hC
 have hX := divP_any a b c d i1 i2 i3 i4
 unfold Ret args2 at hX
 generalize divV a b c d = R at *
 generalize cmpN a b c d = C at *
 go_enter Tryz.func114, Tryz.ntmps114
 go_wp2_with fail
 refine (hC _).mono ?_
 rintro e w1 ⟨rfl, hb1⟩
 change Below (W3 a b c d w).heap.size (W3 a b c d w) w1 at hb1
 have hb := (W3_below a b c d w).then_ hb1
 have KA := (W3_a a b c d w).on hb1
 have KB := (W3_b a b c d w).on hb1
 have KR := (W3_r a b c d w).on hb1
 have hl : w.heap.size ≤ w.heap.size + 1 + 1 := by omega
 obtain ⟨a10, a11⟩ := KA.two
 obtain ⟨b10, b11⟩ := KB.two
 go_wp2_with fail
 refine (hX _).mono ?_
 rintro e w2 ⟨rfl, hb2⟩
 replace hb := hb.then_ hb2
 replace KA := KA.on hb2
 replace KB := KB.on hb2
 replace KR := KR.on hb2
 clear a10 a11 b10 b11
 obtain ⟨a10, a11⟩ := KA.two
 obtain ⟨b10, b11⟩ := KB.two
 have q0 := KR.free 0
 have q1 := KR.free 1
 obtain ⟨r0, r1⟩ := KR.two
 have Kz : Known _ _ _ #[.int .i64 (R.1), .int .i64 (R.2.1)] := (KR.put 0 (.int .i64 (R.1))).put 1 (.int .i64 (R.2.1))
 obtain ⟨z0, z1⟩ := Kz.two
 go_wp2_with fail
 exact bodyPost_ret (v := .tuple #[.agg #[.int .i64 (R.1), .int .i64 (R.2.1)], .int .i64 (R.2.2)]) (by simp [results, Tryz.results114, go_sem, z0, z1]) rfl ⟨rfl, (hb.setCell (p := ⟨w.heap.size + 1 + 1, 0, none⟩) hl _).setCell (p := ⟨w.heap.size + 1 + 1, 1, none⟩) hl _⟩
theorem apply_mod (a b c d : Int) (w : World) (i1 : I64 a) (i2 : I64 b) (i3 : I64 c) (i4 : I64 d)  :
  Calls Tryz.prog 114 #[.string ⟨#[109, 111, 100]⟩, .agg #[.int .i64 a, .int .i64 b], .agg #[.int .i64 c, .int .i64 d]] w fun e w' => e = .returned (.tuple #[.agg #[.int .i64 ((modV a b c d).1), .int .i64 ((modV a b c d).2.1)], .int .i64 ((modV a b c d).2.2)]) ∧ Below w.heap.size w w' := by
 have hC := cmp_any a b c d i1 i2 i3 i4
 unfold RetI at hC
 have hX := modP_any a b c d i1 i2 i3 i4
 unfold Ret args2 at hX
 generalize modV a b c d = R at *
 generalize cmpN a b c d = C at *
 go_enter Tryz.func114, Tryz.ntmps114
 go_wp2_with fail
 refine (hC _).mono ?_
 rintro e w1 ⟨rfl, hb1⟩
 change Below (W3 a b c d w).heap.size (W3 a b c d w) w1 at hb1
 have hb := (W3_below a b c d w).then_ hb1
 have KA := (W3_a a b c d w).on hb1
 have KB := (W3_b a b c d w).on hb1
 have KR := (W3_r a b c d w).on hb1
 have hl : w.heap.size ≤ w.heap.size + 1 + 1 := by omega
 obtain ⟨a10, a11⟩ := KA.two
 obtain ⟨b10, b11⟩ := KB.two
 go_wp2_with fail
 refine (hX _).mono ?_
 rintro e w2 ⟨rfl, hb2⟩
 replace hb := hb.then_ hb2
 replace KA := KA.on hb2
 replace KB := KB.on hb2
 replace KR := KR.on hb2
 clear a10 a11 b10 b11
 obtain ⟨a10, a11⟩ := KA.two
 obtain ⟨b10, b11⟩ := KB.two
 have q0 := KR.free 0
 have q1 := KR.free 1
 obtain ⟨r0, r1⟩ := KR.two
 have Kz : Known _ _ _ #[.int .i64 (R.1), .int .i64 (R.2.1)] := (KR.put 0 (.int .i64 (R.1))).put 1 (.int .i64 (R.2.1))
 obtain ⟨z0, z1⟩ := Kz.two
 go_wp2_with fail
 exact bodyPost_ret (v := .tuple #[.agg #[.int .i64 (R.1), .int .i64 (R.2.1)], .int .i64 (R.2.2)]) (by simp [results, Tryz.results114, go_sem, z0, z1]) rfl ⟨rfl, (hb.setCell (p := ⟨w.heap.size + 1 + 1, 0, none⟩) hl _).setCell (p := ⟨w.heap.size + 1 + 1, 1, none⟩) hl _⟩
theorem apply_hat (a b c d : Int) (w : World) (i1 : I64 a) (i2 : I64 b) (i3 : I64 c) (i4 : I64 d) (v : Num.val a b = true) :
  Calls Tryz.prog 114 #[.string ⟨#[94]⟩, .agg #[.int .i64 a, .int .i64 b], .agg #[.int .i64 c, .int .i64 d]] w fun e w' => e = .returned (.tuple #[.agg #[.int .i64 ((raiseV a b c d).1), .int .i64 ((raiseV a b c d).2.1)], .int .i64 ((raiseV a b c d).2.2)]) ∧ Below w.heap.size w w' := by
 have hC := cmp_any a b c d i1 i2 i3 i4
 unfold RetI at hC
 have hX := raise_any a b c d v
 unfold Ret args2 at hX
 generalize raiseV a b c d = R at *
 generalize cmpN a b c d = C at *
 go_enter Tryz.func114, Tryz.ntmps114
 go_wp2_with fail
 refine (hC _).mono ?_
 rintro e w1 ⟨rfl, hb1⟩
 change Below (W3 a b c d w).heap.size (W3 a b c d w) w1 at hb1
 have hb := (W3_below a b c d w).then_ hb1
 have KA := (W3_a a b c d w).on hb1
 have KB := (W3_b a b c d w).on hb1
 have KR := (W3_r a b c d w).on hb1
 have hl : w.heap.size ≤ w.heap.size + 1 + 1 := by omega
 obtain ⟨a10, a11⟩ := KA.two
 obtain ⟨b10, b11⟩ := KB.two
 go_wp2_with fail
 refine (hX _).mono ?_
 rintro e w2 ⟨rfl, hb2⟩
 replace hb := hb.then_ hb2
 replace KA := KA.on hb2
 replace KB := KB.on hb2
 replace KR := KR.on hb2
 clear a10 a11 b10 b11
 obtain ⟨a10, a11⟩ := KA.two
 obtain ⟨b10, b11⟩ := KB.two
 have q0 := KR.free 0
 have q1 := KR.free 1
 obtain ⟨r0, r1⟩ := KR.two
 have Kz : Known _ _ _ #[.int .i64 (R.1), .int .i64 (R.2.1)] := (KR.put 0 (.int .i64 (R.1))).put 1 (.int .i64 (R.2.1))
 obtain ⟨z0, z1⟩ := Kz.two
 go_wp2_with fail
 exact bodyPost_ret (v := .tuple #[.agg #[.int .i64 (R.1), .int .i64 (R.2.1)], .int .i64 (R.2.2)]) (by simp [results, Tryz.results114, go_sem, z0, z1]) rfl ⟨rfl, (hb.setCell (p := ⟨w.heap.size + 1 + 1, 0, none⟩) hl _).setCell (p := ⟨w.heap.size + 1 + 1, 1, none⟩) hl _⟩
theorem apply_round (a b c d : Int) (w : World) (i1 : I64 a) (i2 : I64 b) (i3 : I64 c) (i4 : I64 d) (h : wholeB c d 0 9 = true) :
  Calls Tryz.prog 114 #[.string ⟨#[114, 111, 117, 110, 100]⟩, .agg #[.int .i64 a, .int .i64 b], .agg #[.int .i64 c, .int .i64 d]] w fun e w' => e = .returned (.tuple #[.agg #[.int .i64 ((roundV a b c).1), .int .i64 ((roundV a b c).2.1)], .int .i64 ((roundV a b c).2.2)]) ∧ Below w.heap.size w w' := by
 have hC := cmp_any a b c d i1 i2 i3 i4
 unfold RetI at hC
 have hW := fun w => whole_any c d 0 9 w
 rw [h] at hW
 have hX := roundP_any a b c i1 i2
 unfold Ret at hX
 generalize roundV a b c = R at *
 generalize cmpN a b c d = C at *
 go_enter Tryz.func114, Tryz.ntmps114
 go_wp2_with fail
 refine (hC _).mono ?_
 rintro e w1 ⟨rfl, hb1⟩
 change Below (W3 a b c d w).heap.size (W3 a b c d w) w1 at hb1
 have hb := (W3_below a b c d w).then_ hb1
 have KA := (W3_a a b c d w).on hb1
 have KB := (W3_b a b c d w).on hb1
 have KR := (W3_r a b c d w).on hb1
 have hl : w.heap.size ≤ w.heap.size + 1 + 1 := by omega
 obtain ⟨a10, a11⟩ := KA.two
 obtain ⟨b10, b11⟩ := KB.two
 go_wp2_with fail
 refine (hW _).mono ?_
 rintro e w2 ⟨rfl, hb2⟩
 replace hb := hb.then_ hb2
 replace KA := KA.on hb2
 replace KB := KB.on hb2
 replace KR := KR.on hb2
 clear a10 a11 b10 b11
 obtain ⟨a10, a11⟩ := KA.two
 obtain ⟨b10, b11⟩ := KB.two
 go_wp2_with fail
 refine (hX _).mono ?_
 rintro e w3 ⟨rfl, hb3⟩
 replace hb := hb.then_ hb3
 replace KA := KA.on hb3
 replace KB := KB.on hb3
 replace KR := KR.on hb3
 clear a10 a11 b10 b11
 obtain ⟨a10, a11⟩ := KA.two
 obtain ⟨b10, b11⟩ := KB.two
 have q0 := KR.free 0
 have q1 := KR.free 1
 obtain ⟨r0, r1⟩ := KR.two
 have Kz : Known _ _ _ #[.int .i64 (R.1), .int .i64 (R.2.1)] := (KR.put 0 (.int .i64 (R.1))).put 1 (.int .i64 (R.2.1))
 obtain ⟨z0, z1⟩ := Kz.two
 go_wp2_with fail
 exact bodyPost_ret (v := .tuple #[.agg #[.int .i64 (R.1), .int .i64 (R.2.1)], .int .i64 (R.2.2)]) (by simp [results, Tryz.results114, go_sem, z0, z1]) rfl ⟨rfl, (hb.setCell (p := ⟨w.heap.size + 1 + 1, 0, none⟩) hl _).setCell (p := ⟨w.heap.size + 1 + 1, 1, none⟩) hl _⟩
theorem apply_round_no (a b c d : Int) (w : World) (i1 : I64 a) (i2 : I64 b) (i3 : I64 c) (i4 : I64 d) (h : wholeB c d 0 9 = false) :
  Calls Tryz.prog 114 #[.string ⟨#[114, 111, 117, 110, 100]⟩, .agg #[.int .i64 a, .int .i64 b], .agg #[.int .i64 c, .int .i64 d]] w fun e w' => e = .returned (.tuple #[.agg #[.int .i64 (0), .int .i64 (0)], .int .i64 (2)]) ∧ Below w.heap.size w w' := by
 have hC := cmp_any a b c d i1 i2 i3 i4
 unfold RetI at hC
 have hW := fun w => whole_any c d 0 9 w
 rw [h] at hW
 generalize cmpN a b c d = C at *
 go_enter Tryz.func114, Tryz.ntmps114
 go_wp2_with fail
 refine (hC _).mono ?_
 rintro e w1 ⟨rfl, hb1⟩
 change Below (W3 a b c d w).heap.size (W3 a b c d w) w1 at hb1
 have hb := (W3_below a b c d w).then_ hb1
 have KA := (W3_a a b c d w).on hb1
 have KB := (W3_b a b c d w).on hb1
 have KR := (W3_r a b c d w).on hb1
 have hl : w.heap.size ≤ w.heap.size + 1 + 1 := by omega
 obtain ⟨a10, a11⟩ := KA.two
 obtain ⟨b10, b11⟩ := KB.two
 go_wp2_with fail
 refine (hW _).mono ?_
 rintro e w2 ⟨rfl, hb2⟩
 replace hb := hb.then_ hb2
 replace KA := KA.on hb2
 replace KB := KB.on hb2
 replace KR := KR.on hb2
 clear a10 a11 b10 b11
 obtain ⟨a10, a11⟩ := KA.two
 obtain ⟨b10, b11⟩ := KB.two
 have q0 := KR.free 0
 have q1 := KR.free 1
 obtain ⟨r0, r1⟩ := KR.two
 have Kz : Known _ _ _ #[.int .i64 (0), .int .i64 (0)] := (KR.put 0 (.int .i64 (0))).put 1 (.int .i64 (0))
 obtain ⟨z0, z1⟩ := Kz.two
 go_wp2_with fail
 exact bodyPost_ret (v := .tuple #[.agg #[.int .i64 (0), .int .i64 (0)], .int .i64 (2)]) (by simp [results, Tryz.results114, go_sem, z0, z1]) rfl ⟨rfl, (hb.setCell (p := ⟨w.heap.size + 1 + 1, 0, none⟩) hl _).setCell (p := ⟨w.heap.size + 1 + 1, 1, none⟩) hl _⟩
theorem apply_eq_true (a b c d : Int) (w : World) (i1 : I64 a) (i2 : I64 b) (i3 : I64 c) (i4 : I64 d) (g : (cmpN a b c d == 0) = true) :
  Calls Tryz.prog 114 #[.string ⟨#[61]⟩, .agg #[.int .i64 a, .int .i64 b], .agg #[.int .i64 c, .int .i64 d]] w fun e w' => e = .returned (.tuple #[.agg #[.int .i64 (1), .int .i64 (1)], .int .i64 (0)]) ∧ Below w.heap.size w w' := by
 have hC := cmp_any a b c d i1 i2 i3 i4
 unfold RetI at hC
 generalize cmpN a b c d = C at *
 have hT := truth_true
 go_enter Tryz.func114, Tryz.ntmps114
 go_wp2_with fail
 refine (hC _).mono ?_
 rintro e w1 ⟨rfl, hb1⟩
 change Below (W3 a b c d w).heap.size (W3 a b c d w) w1 at hb1
 have hb := (W3_below a b c d w).then_ hb1
 have KA := (W3_a a b c d w).on hb1
 have KB := (W3_b a b c d w).on hb1
 have KR := (W3_r a b c d w).on hb1
 have hl : w.heap.size ≤ w.heap.size + 1 + 1 := by omega
 obtain ⟨a10, a11⟩ := KA.two
 obtain ⟨b10, b11⟩ := KB.two
 go_wp2_with fail
 refine (hT _).mono ?_
 rintro e w2 ⟨rfl, hb2⟩
 replace hb := hb.then_ hb2
 replace KA := KA.on hb2
 replace KB := KB.on hb2
 replace KR := KR.on hb2
 clear a10 a11 b10 b11
 obtain ⟨a10, a11⟩ := KA.two
 obtain ⟨b10, b11⟩ := KB.two
 have q0 := KR.free 0
 have q1 := KR.free 1
 obtain ⟨r0, r1⟩ := KR.two
 have Kz : Known _ _ _ #[.int .i64 (1), .int .i64 (1)] := (KR.put 0 (.int .i64 (1))).put 1 (.int .i64 (1))
 obtain ⟨z0, z1⟩ := Kz.two
 go_wp2_with fail
 exact bodyPost_ret (v := .tuple #[.agg #[.int .i64 (1), .int .i64 (1)], .int .i64 (0)]) (by simp [results, Tryz.results114, go_sem, z0, z1]) rfl ⟨rfl, (hb.setCell (p := ⟨w.heap.size + 1 + 1, 0, none⟩) hl _).setCell (p := ⟨w.heap.size + 1 + 1, 1, none⟩) hl _⟩
theorem apply_eq_false (a b c d : Int) (w : World) (i1 : I64 a) (i2 : I64 b) (i3 : I64 c) (i4 : I64 d) (g : (cmpN a b c d == 0) = false) :
  Calls Tryz.prog 114 #[.string ⟨#[61]⟩, .agg #[.int .i64 a, .int .i64 b], .agg #[.int .i64 c, .int .i64 d]] w fun e w' => e = .returned (.tuple #[.agg #[.int .i64 (0), .int .i64 (1)], .int .i64 (0)]) ∧ Below w.heap.size w w' := by
 have hC := cmp_any a b c d i1 i2 i3 i4
 unfold RetI at hC
 generalize cmpN a b c d = C at *
 have hT := truth_false
 go_enter Tryz.func114, Tryz.ntmps114
 go_wp2_with fail
 refine (hC _).mono ?_
 rintro e w1 ⟨rfl, hb1⟩
 change Below (W3 a b c d w).heap.size (W3 a b c d w) w1 at hb1
 have hb := (W3_below a b c d w).then_ hb1
 have KA := (W3_a a b c d w).on hb1
 have KB := (W3_b a b c d w).on hb1
 have KR := (W3_r a b c d w).on hb1
 have hl : w.heap.size ≤ w.heap.size + 1 + 1 := by omega
 obtain ⟨a10, a11⟩ := KA.two
 obtain ⟨b10, b11⟩ := KB.two
 go_wp2_with fail
 refine (hT _).mono ?_
 rintro e w2 ⟨rfl, hb2⟩
 replace hb := hb.then_ hb2
 replace KA := KA.on hb2
 replace KB := KB.on hb2
 replace KR := KR.on hb2
 clear a10 a11 b10 b11
 obtain ⟨a10, a11⟩ := KA.two
 obtain ⟨b10, b11⟩ := KB.two
 have q0 := KR.free 0
 have q1 := KR.free 1
 obtain ⟨r0, r1⟩ := KR.two
 have Kz : Known _ _ _ #[.int .i64 (0), .int .i64 (1)] := (KR.put 0 (.int .i64 (0))).put 1 (.int .i64 (1))
 obtain ⟨z0, z1⟩ := Kz.two
 go_wp2_with fail
 exact bodyPost_ret (v := .tuple #[.agg #[.int .i64 (0), .int .i64 (1)], .int .i64 (0)]) (by simp [results, Tryz.results114, go_sem, z0, z1]) rfl ⟨rfl, (hb.setCell (p := ⟨w.heap.size + 1 + 1, 0, none⟩) hl _).setCell (p := ⟨w.heap.size + 1 + 1, 1, none⟩) hl _⟩
theorem apply_ne_true (a b c d : Int) (w : World) (i1 : I64 a) (i2 : I64 b) (i3 : I64 c) (i4 : I64 d) (g : (cmpN a b c d != 0) = true) :
  Calls Tryz.prog 114 #[.string ⟨#[60, 62]⟩, .agg #[.int .i64 a, .int .i64 b], .agg #[.int .i64 c, .int .i64 d]] w fun e w' => e = .returned (.tuple #[.agg #[.int .i64 (1), .int .i64 (1)], .int .i64 (0)]) ∧ Below w.heap.size w w' := by
 have hC := cmp_any a b c d i1 i2 i3 i4
 unfold RetI at hC
 generalize cmpN a b c d = C at *
 have hT := truth_true
 go_enter Tryz.func114, Tryz.ntmps114
 go_wp2_with fail
 refine (hC _).mono ?_
 rintro e w1 ⟨rfl, hb1⟩
 change Below (W3 a b c d w).heap.size (W3 a b c d w) w1 at hb1
 have hb := (W3_below a b c d w).then_ hb1
 have KA := (W3_a a b c d w).on hb1
 have KB := (W3_b a b c d w).on hb1
 have KR := (W3_r a b c d w).on hb1
 have hl : w.heap.size ≤ w.heap.size + 1 + 1 := by omega
 obtain ⟨a10, a11⟩ := KA.two
 obtain ⟨b10, b11⟩ := KB.two
 go_wp2_with fail
 refine (hT _).mono ?_
 rintro e w2 ⟨rfl, hb2⟩
 replace hb := hb.then_ hb2
 replace KA := KA.on hb2
 replace KB := KB.on hb2
 replace KR := KR.on hb2
 clear a10 a11 b10 b11
 obtain ⟨a10, a11⟩ := KA.two
 obtain ⟨b10, b11⟩ := KB.two
 have q0 := KR.free 0
 have q1 := KR.free 1
 obtain ⟨r0, r1⟩ := KR.two
 have Kz : Known _ _ _ #[.int .i64 (1), .int .i64 (1)] := (KR.put 0 (.int .i64 (1))).put 1 (.int .i64 (1))
 obtain ⟨z0, z1⟩ := Kz.two
 go_wp2_with fail
 exact bodyPost_ret (v := .tuple #[.agg #[.int .i64 (1), .int .i64 (1)], .int .i64 (0)]) (by simp [results, Tryz.results114, go_sem, z0, z1]) rfl ⟨rfl, (hb.setCell (p := ⟨w.heap.size + 1 + 1, 0, none⟩) hl _).setCell (p := ⟨w.heap.size + 1 + 1, 1, none⟩) hl _⟩
theorem apply_ne_false (a b c d : Int) (w : World) (i1 : I64 a) (i2 : I64 b) (i3 : I64 c) (i4 : I64 d) (g : (cmpN a b c d != 0) = false) :
  Calls Tryz.prog 114 #[.string ⟨#[60, 62]⟩, .agg #[.int .i64 a, .int .i64 b], .agg #[.int .i64 c, .int .i64 d]] w fun e w' => e = .returned (.tuple #[.agg #[.int .i64 (0), .int .i64 (1)], .int .i64 (0)]) ∧ Below w.heap.size w w' := by
 have hC := cmp_any a b c d i1 i2 i3 i4
 unfold RetI at hC
 generalize cmpN a b c d = C at *
 have hT := truth_false
 go_enter Tryz.func114, Tryz.ntmps114
 go_wp2_with fail
 refine (hC _).mono ?_
 rintro e w1 ⟨rfl, hb1⟩
 change Below (W3 a b c d w).heap.size (W3 a b c d w) w1 at hb1
 have hb := (W3_below a b c d w).then_ hb1
 have KA := (W3_a a b c d w).on hb1
 have KB := (W3_b a b c d w).on hb1
 have KR := (W3_r a b c d w).on hb1
 have hl : w.heap.size ≤ w.heap.size + 1 + 1 := by omega
 obtain ⟨a10, a11⟩ := KA.two
 obtain ⟨b10, b11⟩ := KB.two
 go_wp2_with fail
 refine (hT _).mono ?_
 rintro e w2 ⟨rfl, hb2⟩
 replace hb := hb.then_ hb2
 replace KA := KA.on hb2
 replace KB := KB.on hb2
 replace KR := KR.on hb2
 clear a10 a11 b10 b11
 obtain ⟨a10, a11⟩ := KA.two
 obtain ⟨b10, b11⟩ := KB.two
 have q0 := KR.free 0
 have q1 := KR.free 1
 obtain ⟨r0, r1⟩ := KR.two
 have Kz : Known _ _ _ #[.int .i64 (0), .int .i64 (1)] := (KR.put 0 (.int .i64 (0))).put 1 (.int .i64 (1))
 obtain ⟨z0, z1⟩ := Kz.two
 go_wp2_with fail
 exact bodyPost_ret (v := .tuple #[.agg #[.int .i64 (0), .int .i64 (1)], .int .i64 (0)]) (by simp [results, Tryz.results114, go_sem, z0, z1]) rfl ⟨rfl, (hb.setCell (p := ⟨w.heap.size + 1 + 1, 0, none⟩) hl _).setCell (p := ⟨w.heap.size + 1 + 1, 1, none⟩) hl _⟩
theorem apply_lt_true (a b c d : Int) (w : World) (i1 : I64 a) (i2 : I64 b) (i3 : I64 c) (i4 : I64 d) (g : decide (cmpN a b c d < 0) = true) :
  Calls Tryz.prog 114 #[.string ⟨#[60]⟩, .agg #[.int .i64 a, .int .i64 b], .agg #[.int .i64 c, .int .i64 d]] w fun e w' => e = .returned (.tuple #[.agg #[.int .i64 (1), .int .i64 (1)], .int .i64 (0)]) ∧ Below w.heap.size w w' := by
 have hC := cmp_any a b c d i1 i2 i3 i4
 unfold RetI at hC
 generalize cmpN a b c d = C at *
 have hT := truth_true
 go_enter Tryz.func114, Tryz.ntmps114
 go_wp2_with fail
 refine (hC _).mono ?_
 rintro e w1 ⟨rfl, hb1⟩
 change Below (W3 a b c d w).heap.size (W3 a b c d w) w1 at hb1
 have hb := (W3_below a b c d w).then_ hb1
 have KA := (W3_a a b c d w).on hb1
 have KB := (W3_b a b c d w).on hb1
 have KR := (W3_r a b c d w).on hb1
 have hl : w.heap.size ≤ w.heap.size + 1 + 1 := by omega
 obtain ⟨a10, a11⟩ := KA.two
 obtain ⟨b10, b11⟩ := KB.two
 go_wp2_with fail
 refine (hT _).mono ?_
 rintro e w2 ⟨rfl, hb2⟩
 replace hb := hb.then_ hb2
 replace KA := KA.on hb2
 replace KB := KB.on hb2
 replace KR := KR.on hb2
 clear a10 a11 b10 b11
 obtain ⟨a10, a11⟩ := KA.two
 obtain ⟨b10, b11⟩ := KB.two
 have q0 := KR.free 0
 have q1 := KR.free 1
 obtain ⟨r0, r1⟩ := KR.two
 have Kz : Known _ _ _ #[.int .i64 (1), .int .i64 (1)] := (KR.put 0 (.int .i64 (1))).put 1 (.int .i64 (1))
 obtain ⟨z0, z1⟩ := Kz.two
 go_wp2_with fail
 exact bodyPost_ret (v := .tuple #[.agg #[.int .i64 (1), .int .i64 (1)], .int .i64 (0)]) (by simp [results, Tryz.results114, go_sem, z0, z1]) rfl ⟨rfl, (hb.setCell (p := ⟨w.heap.size + 1 + 1, 0, none⟩) hl _).setCell (p := ⟨w.heap.size + 1 + 1, 1, none⟩) hl _⟩
theorem apply_lt_false (a b c d : Int) (w : World) (i1 : I64 a) (i2 : I64 b) (i3 : I64 c) (i4 : I64 d) (g : decide (cmpN a b c d < 0) = false) :
  Calls Tryz.prog 114 #[.string ⟨#[60]⟩, .agg #[.int .i64 a, .int .i64 b], .agg #[.int .i64 c, .int .i64 d]] w fun e w' => e = .returned (.tuple #[.agg #[.int .i64 (0), .int .i64 (1)], .int .i64 (0)]) ∧ Below w.heap.size w w' := by
 have hC := cmp_any a b c d i1 i2 i3 i4
 unfold RetI at hC
 generalize cmpN a b c d = C at *
 have hT := truth_false
 go_enter Tryz.func114, Tryz.ntmps114
 go_wp2_with fail
 refine (hC _).mono ?_
 rintro e w1 ⟨rfl, hb1⟩
 change Below (W3 a b c d w).heap.size (W3 a b c d w) w1 at hb1
 have hb := (W3_below a b c d w).then_ hb1
 have KA := (W3_a a b c d w).on hb1
 have KB := (W3_b a b c d w).on hb1
 have KR := (W3_r a b c d w).on hb1
 have hl : w.heap.size ≤ w.heap.size + 1 + 1 := by omega
 obtain ⟨a10, a11⟩ := KA.two
 obtain ⟨b10, b11⟩ := KB.two
 go_wp2_with fail
 refine (hT _).mono ?_
 rintro e w2 ⟨rfl, hb2⟩
 replace hb := hb.then_ hb2
 replace KA := KA.on hb2
 replace KB := KB.on hb2
 replace KR := KR.on hb2
 clear a10 a11 b10 b11
 obtain ⟨a10, a11⟩ := KA.two
 obtain ⟨b10, b11⟩ := KB.two
 have q0 := KR.free 0
 have q1 := KR.free 1
 obtain ⟨r0, r1⟩ := KR.two
 have Kz : Known _ _ _ #[.int .i64 (0), .int .i64 (1)] := (KR.put 0 (.int .i64 (0))).put 1 (.int .i64 (1))
 obtain ⟨z0, z1⟩ := Kz.two
 go_wp2_with fail
 exact bodyPost_ret (v := .tuple #[.agg #[.int .i64 (0), .int .i64 (1)], .int .i64 (0)]) (by simp [results, Tryz.results114, go_sem, z0, z1]) rfl ⟨rfl, (hb.setCell (p := ⟨w.heap.size + 1 + 1, 0, none⟩) hl _).setCell (p := ⟨w.heap.size + 1 + 1, 1, none⟩) hl _⟩
theorem apply_gt_true (a b c d : Int) (w : World) (i1 : I64 a) (i2 : I64 b) (i3 : I64 c) (i4 : I64 d) (g : decide (0 < cmpN a b c d) = true) :
  Calls Tryz.prog 114 #[.string ⟨#[62]⟩, .agg #[.int .i64 a, .int .i64 b], .agg #[.int .i64 c, .int .i64 d]] w fun e w' => e = .returned (.tuple #[.agg #[.int .i64 (1), .int .i64 (1)], .int .i64 (0)]) ∧ Below w.heap.size w w' := by
 have hC := cmp_any a b c d i1 i2 i3 i4
 unfold RetI at hC
 generalize cmpN a b c d = C at *
 have hT := truth_true
 go_enter Tryz.func114, Tryz.ntmps114
 go_wp2_with fail
 refine (hC _).mono ?_
 rintro e w1 ⟨rfl, hb1⟩
 change Below (W3 a b c d w).heap.size (W3 a b c d w) w1 at hb1
 have hb := (W3_below a b c d w).then_ hb1
 have KA := (W3_a a b c d w).on hb1
 have KB := (W3_b a b c d w).on hb1
 have KR := (W3_r a b c d w).on hb1
 have hl : w.heap.size ≤ w.heap.size + 1 + 1 := by omega
 obtain ⟨a10, a11⟩ := KA.two
 obtain ⟨b10, b11⟩ := KB.two
 go_wp2_with fail
 refine (hT _).mono ?_
 rintro e w2 ⟨rfl, hb2⟩
 replace hb := hb.then_ hb2
 replace KA := KA.on hb2
 replace KB := KB.on hb2
 replace KR := KR.on hb2
 clear a10 a11 b10 b11
 obtain ⟨a10, a11⟩ := KA.two
 obtain ⟨b10, b11⟩ := KB.two
 have q0 := KR.free 0
 have q1 := KR.free 1
 obtain ⟨r0, r1⟩ := KR.two
 have Kz : Known _ _ _ #[.int .i64 (1), .int .i64 (1)] := (KR.put 0 (.int .i64 (1))).put 1 (.int .i64 (1))
 obtain ⟨z0, z1⟩ := Kz.two
 go_wp2_with fail
 exact bodyPost_ret (v := .tuple #[.agg #[.int .i64 (1), .int .i64 (1)], .int .i64 (0)]) (by simp [results, Tryz.results114, go_sem, z0, z1]) rfl ⟨rfl, (hb.setCell (p := ⟨w.heap.size + 1 + 1, 0, none⟩) hl _).setCell (p := ⟨w.heap.size + 1 + 1, 1, none⟩) hl _⟩
theorem apply_gt_false (a b c d : Int) (w : World) (i1 : I64 a) (i2 : I64 b) (i3 : I64 c) (i4 : I64 d) (g : decide (0 < cmpN a b c d) = false) :
  Calls Tryz.prog 114 #[.string ⟨#[62]⟩, .agg #[.int .i64 a, .int .i64 b], .agg #[.int .i64 c, .int .i64 d]] w fun e w' => e = .returned (.tuple #[.agg #[.int .i64 (0), .int .i64 (1)], .int .i64 (0)]) ∧ Below w.heap.size w w' := by
 have hC := cmp_any a b c d i1 i2 i3 i4
 unfold RetI at hC
 generalize cmpN a b c d = C at *
 have hT := truth_false
 go_enter Tryz.func114, Tryz.ntmps114
 go_wp2_with fail
 refine (hC _).mono ?_
 rintro e w1 ⟨rfl, hb1⟩
 change Below (W3 a b c d w).heap.size (W3 a b c d w) w1 at hb1
 have hb := (W3_below a b c d w).then_ hb1
 have KA := (W3_a a b c d w).on hb1
 have KB := (W3_b a b c d w).on hb1
 have KR := (W3_r a b c d w).on hb1
 have hl : w.heap.size ≤ w.heap.size + 1 + 1 := by omega
 obtain ⟨a10, a11⟩ := KA.two
 obtain ⟨b10, b11⟩ := KB.two
 go_wp2_with fail
 refine (hT _).mono ?_
 rintro e w2 ⟨rfl, hb2⟩
 replace hb := hb.then_ hb2
 replace KA := KA.on hb2
 replace KB := KB.on hb2
 replace KR := KR.on hb2
 clear a10 a11 b10 b11
 obtain ⟨a10, a11⟩ := KA.two
 obtain ⟨b10, b11⟩ := KB.two
 have q0 := KR.free 0
 have q1 := KR.free 1
 obtain ⟨r0, r1⟩ := KR.two
 have Kz : Known _ _ _ #[.int .i64 (0), .int .i64 (1)] := (KR.put 0 (.int .i64 (0))).put 1 (.int .i64 (1))
 obtain ⟨z0, z1⟩ := Kz.two
 go_wp2_with fail
 exact bodyPost_ret (v := .tuple #[.agg #[.int .i64 (0), .int .i64 (1)], .int .i64 (0)]) (by simp [results, Tryz.results114, go_sem, z0, z1]) rfl ⟨rfl, (hb.setCell (p := ⟨w.heap.size + 1 + 1, 0, none⟩) hl _).setCell (p := ⟨w.heap.size + 1 + 1, 1, none⟩) hl _⟩
theorem apply_le_true (a b c d : Int) (w : World) (i1 : I64 a) (i2 : I64 b) (i3 : I64 c) (i4 : I64 d) (g : decide (cmpN a b c d ≤ 0) = true) :
  Calls Tryz.prog 114 #[.string ⟨#[60, 61]⟩, .agg #[.int .i64 a, .int .i64 b], .agg #[.int .i64 c, .int .i64 d]] w fun e w' => e = .returned (.tuple #[.agg #[.int .i64 (1), .int .i64 (1)], .int .i64 (0)]) ∧ Below w.heap.size w w' := by
 have hC := cmp_any a b c d i1 i2 i3 i4
 unfold RetI at hC
 generalize cmpN a b c d = C at *
 have hT := truth_true
 go_enter Tryz.func114, Tryz.ntmps114
 go_wp2_with fail
 refine (hC _).mono ?_
 rintro e w1 ⟨rfl, hb1⟩
 change Below (W3 a b c d w).heap.size (W3 a b c d w) w1 at hb1
 have hb := (W3_below a b c d w).then_ hb1
 have KA := (W3_a a b c d w).on hb1
 have KB := (W3_b a b c d w).on hb1
 have KR := (W3_r a b c d w).on hb1
 have hl : w.heap.size ≤ w.heap.size + 1 + 1 := by omega
 obtain ⟨a10, a11⟩ := KA.two
 obtain ⟨b10, b11⟩ := KB.two
 go_wp2_with fail
 refine (hT _).mono ?_
 rintro e w2 ⟨rfl, hb2⟩
 replace hb := hb.then_ hb2
 replace KA := KA.on hb2
 replace KB := KB.on hb2
 replace KR := KR.on hb2
 clear a10 a11 b10 b11
 obtain ⟨a10, a11⟩ := KA.two
 obtain ⟨b10, b11⟩ := KB.two
 have q0 := KR.free 0
 have q1 := KR.free 1
 obtain ⟨r0, r1⟩ := KR.two
 have Kz : Known _ _ _ #[.int .i64 (1), .int .i64 (1)] := (KR.put 0 (.int .i64 (1))).put 1 (.int .i64 (1))
 obtain ⟨z0, z1⟩ := Kz.two
 go_wp2_with fail
 exact bodyPost_ret (v := .tuple #[.agg #[.int .i64 (1), .int .i64 (1)], .int .i64 (0)]) (by simp [results, Tryz.results114, go_sem, z0, z1]) rfl ⟨rfl, (hb.setCell (p := ⟨w.heap.size + 1 + 1, 0, none⟩) hl _).setCell (p := ⟨w.heap.size + 1 + 1, 1, none⟩) hl _⟩
theorem apply_le_false (a b c d : Int) (w : World) (i1 : I64 a) (i2 : I64 b) (i3 : I64 c) (i4 : I64 d) (g : decide (cmpN a b c d ≤ 0) = false) :
  Calls Tryz.prog 114 #[.string ⟨#[60, 61]⟩, .agg #[.int .i64 a, .int .i64 b], .agg #[.int .i64 c, .int .i64 d]] w fun e w' => e = .returned (.tuple #[.agg #[.int .i64 (0), .int .i64 (1)], .int .i64 (0)]) ∧ Below w.heap.size w w' := by
 have hC := cmp_any a b c d i1 i2 i3 i4
 unfold RetI at hC
 generalize cmpN a b c d = C at *
 have hT := truth_false
 go_enter Tryz.func114, Tryz.ntmps114
 go_wp2_with fail
 refine (hC _).mono ?_
 rintro e w1 ⟨rfl, hb1⟩
 change Below (W3 a b c d w).heap.size (W3 a b c d w) w1 at hb1
 have hb := (W3_below a b c d w).then_ hb1
 have KA := (W3_a a b c d w).on hb1
 have KB := (W3_b a b c d w).on hb1
 have KR := (W3_r a b c d w).on hb1
 have hl : w.heap.size ≤ w.heap.size + 1 + 1 := by omega
 obtain ⟨a10, a11⟩ := KA.two
 obtain ⟨b10, b11⟩ := KB.two
 go_wp2_with fail
 refine (hT _).mono ?_
 rintro e w2 ⟨rfl, hb2⟩
 replace hb := hb.then_ hb2
 replace KA := KA.on hb2
 replace KB := KB.on hb2
 replace KR := KR.on hb2
 clear a10 a11 b10 b11
 obtain ⟨a10, a11⟩ := KA.two
 obtain ⟨b10, b11⟩ := KB.two
 have q0 := KR.free 0
 have q1 := KR.free 1
 obtain ⟨r0, r1⟩ := KR.two
 have Kz : Known _ _ _ #[.int .i64 (0), .int .i64 (1)] := (KR.put 0 (.int .i64 (0))).put 1 (.int .i64 (1))
 obtain ⟨z0, z1⟩ := Kz.two
 go_wp2_with fail
 exact bodyPost_ret (v := .tuple #[.agg #[.int .i64 (0), .int .i64 (1)], .int .i64 (0)]) (by simp [results, Tryz.results114, go_sem, z0, z1]) rfl ⟨rfl, (hb.setCell (p := ⟨w.heap.size + 1 + 1, 0, none⟩) hl _).setCell (p := ⟨w.heap.size + 1 + 1, 1, none⟩) hl _⟩
theorem apply_ge_true (a b c d : Int) (w : World) (i1 : I64 a) (i2 : I64 b) (i3 : I64 c) (i4 : I64 d) (g : decide (0 ≤ cmpN a b c d) = true) :
  Calls Tryz.prog 114 #[.string ⟨#[62, 61]⟩, .agg #[.int .i64 a, .int .i64 b], .agg #[.int .i64 c, .int .i64 d]] w fun e w' => e = .returned (.tuple #[.agg #[.int .i64 (1), .int .i64 (1)], .int .i64 (0)]) ∧ Below w.heap.size w w' := by
 have hC := cmp_any a b c d i1 i2 i3 i4
 unfold RetI at hC
 generalize cmpN a b c d = C at *
 have hT := truth_true
 go_enter Tryz.func114, Tryz.ntmps114
 go_wp2_with fail
 refine (hC _).mono ?_
 rintro e w1 ⟨rfl, hb1⟩
 change Below (W3 a b c d w).heap.size (W3 a b c d w) w1 at hb1
 have hb := (W3_below a b c d w).then_ hb1
 have KA := (W3_a a b c d w).on hb1
 have KB := (W3_b a b c d w).on hb1
 have KR := (W3_r a b c d w).on hb1
 have hl : w.heap.size ≤ w.heap.size + 1 + 1 := by omega
 obtain ⟨a10, a11⟩ := KA.two
 obtain ⟨b10, b11⟩ := KB.two
 go_wp2_with fail
 refine (hT _).mono ?_
 rintro e w2 ⟨rfl, hb2⟩
 replace hb := hb.then_ hb2
 replace KA := KA.on hb2
 replace KB := KB.on hb2
 replace KR := KR.on hb2
 clear a10 a11 b10 b11
 obtain ⟨a10, a11⟩ := KA.two
 obtain ⟨b10, b11⟩ := KB.two
 have q0 := KR.free 0
 have q1 := KR.free 1
 obtain ⟨r0, r1⟩ := KR.two
 have Kz : Known _ _ _ #[.int .i64 (1), .int .i64 (1)] := (KR.put 0 (.int .i64 (1))).put 1 (.int .i64 (1))
 obtain ⟨z0, z1⟩ := Kz.two
 go_wp2_with fail
 exact bodyPost_ret (v := .tuple #[.agg #[.int .i64 (1), .int .i64 (1)], .int .i64 (0)]) (by simp [results, Tryz.results114, go_sem, z0, z1]) rfl ⟨rfl, (hb.setCell (p := ⟨w.heap.size + 1 + 1, 0, none⟩) hl _).setCell (p := ⟨w.heap.size + 1 + 1, 1, none⟩) hl _⟩
theorem apply_ge_false (a b c d : Int) (w : World) (i1 : I64 a) (i2 : I64 b) (i3 : I64 c) (i4 : I64 d) (g : decide (0 ≤ cmpN a b c d) = false) :
  Calls Tryz.prog 114 #[.string ⟨#[62, 61]⟩, .agg #[.int .i64 a, .int .i64 b], .agg #[.int .i64 c, .int .i64 d]] w fun e w' => e = .returned (.tuple #[.agg #[.int .i64 (0), .int .i64 (1)], .int .i64 (0)]) ∧ Below w.heap.size w w' := by
 have hC := cmp_any a b c d i1 i2 i3 i4
 unfold RetI at hC
 generalize cmpN a b c d = C at *
 have hT := truth_false
 go_enter Tryz.func114, Tryz.ntmps114
 go_wp2_with fail
 refine (hC _).mono ?_
 rintro e w1 ⟨rfl, hb1⟩
 change Below (W3 a b c d w).heap.size (W3 a b c d w) w1 at hb1
 have hb := (W3_below a b c d w).then_ hb1
 have KA := (W3_a a b c d w).on hb1
 have KB := (W3_b a b c d w).on hb1
 have KR := (W3_r a b c d w).on hb1
 have hl : w.heap.size ≤ w.heap.size + 1 + 1 := by omega
 obtain ⟨a10, a11⟩ := KA.two
 obtain ⟨b10, b11⟩ := KB.two
 go_wp2_with fail
 refine (hT _).mono ?_
 rintro e w2 ⟨rfl, hb2⟩
 replace hb := hb.then_ hb2
 replace KA := KA.on hb2
 replace KB := KB.on hb2
 replace KR := KR.on hb2
 clear a10 a11 b10 b11
 obtain ⟨a10, a11⟩ := KA.two
 obtain ⟨b10, b11⟩ := KB.two
 have q0 := KR.free 0
 have q1 := KR.free 1
 obtain ⟨r0, r1⟩ := KR.two
 have Kz : Known _ _ _ #[.int .i64 (0), .int .i64 (1)] := (KR.put 0 (.int .i64 (0))).put 1 (.int .i64 (1))
 obtain ⟨z0, z1⟩ := Kz.two
 go_wp2_with fail
 exact bodyPost_ret (v := .tuple #[.agg #[.int .i64 (0), .int .i64 (1)], .int .i64 (0)]) (by simp [results, Tryz.results114, go_sem, z0, z1]) rfl ⟨rfl, (hb.setCell (p := ⟨w.heap.size + 1 + 1, 0, none⟩) hl _).setCell (p := ⟨w.heap.size + 1 + 1, 1, none⟩) hl _⟩
theorem apply_and_00 (a b c d : Int) (w : World) (i1 : I64 a) (i2 : I64 b) (i3 : I64 c) (i4 : I64 d) (ha : a = 0) :
  Calls Tryz.prog 114 #[.string ⟨#[97, 110, 100]⟩, .agg #[.int .i64 a, .int .i64 b], .agg #[.int .i64 c, .int .i64 d]] w fun e w' => e = .returned (.tuple #[.agg #[.int .i64 (0), .int .i64 (1)], .int .i64 (0)]) ∧ Below w.heap.size w w' := by
 have hC := cmp_any a b c d i1 i2 i3 i4
 unfold RetI at hC
 have g1 : (a != 0) = false := by simpa using ha
 have g2 : (a == 0) = true := by simpa using ha
 generalize cmpN a b c d = C at *
 clear ha
 have hT := truth_false
 go_enter Tryz.func114, Tryz.ntmps114
 go_wp2_with fail
 refine (hC _).mono ?_
 rintro e w1 ⟨rfl, hb1⟩
 change Below (W3 a b c d w).heap.size (W3 a b c d w) w1 at hb1
 have hb := (W3_below a b c d w).then_ hb1
 have KA := (W3_a a b c d w).on hb1
 have KB := (W3_b a b c d w).on hb1
 have KR := (W3_r a b c d w).on hb1
 have hl : w.heap.size ≤ w.heap.size + 1 + 1 := by omega
 obtain ⟨a10, a11⟩ := KA.two
 obtain ⟨b10, b11⟩ := KB.two
 go_wp2_with fail
 refine (hT _).mono ?_
 rintro e w2 ⟨rfl, hb2⟩
 replace hb := hb.then_ hb2
 replace KA := KA.on hb2
 replace KB := KB.on hb2
 replace KR := KR.on hb2
 clear a10 a11 b10 b11
 obtain ⟨a10, a11⟩ := KA.two
 obtain ⟨b10, b11⟩ := KB.two
 have q0 := KR.free 0
 have q1 := KR.free 1
 obtain ⟨r0, r1⟩ := KR.two
 have Kz : Known _ _ _ #[.int .i64 (0), .int .i64 (1)] := (KR.put 0 (.int .i64 (0))).put 1 (.int .i64 (1))
 obtain ⟨z0, z1⟩ := Kz.two
 go_wp2_with fail
 exact bodyPost_ret (v := .tuple #[.agg #[.int .i64 (0), .int .i64 (1)], .int .i64 (0)]) (by simp [results, Tryz.results114, go_sem, z0, z1]) rfl ⟨rfl, (hb.setCell (p := ⟨w.heap.size + 1 + 1, 0, none⟩) hl _).setCell (p := ⟨w.heap.size + 1 + 1, 1, none⟩) hl _⟩
theorem apply_and_10 (a b c d : Int) (w : World) (i1 : I64 a) (i2 : I64 b) (i3 : I64 c) (i4 : I64 d) (ha : ¬ a = 0) (hc : c = 0) :
  Calls Tryz.prog 114 #[.string ⟨#[97, 110, 100]⟩, .agg #[.int .i64 a, .int .i64 b], .agg #[.int .i64 c, .int .i64 d]] w fun e w' => e = .returned (.tuple #[.agg #[.int .i64 (0), .int .i64 (1)], .int .i64 (0)]) ∧ Below w.heap.size w w' := by
 have hC := cmp_any a b c d i1 i2 i3 i4
 unfold RetI at hC
 have g1 : (a != 0) = true := by simpa using ha
 have g2 : (a == 0) = false := by simpa using ha
 have g3 : (c != 0) = false := by simpa using hc
 have g4 : (c == 0) = true := by simpa using hc
 generalize cmpN a b c d = C at *
 clear ha hc
 have hT := truth_false
 go_enter Tryz.func114, Tryz.ntmps114
 go_wp2_with fail
 refine (hC _).mono ?_
 rintro e w1 ⟨rfl, hb1⟩
 change Below (W3 a b c d w).heap.size (W3 a b c d w) w1 at hb1
 have hb := (W3_below a b c d w).then_ hb1
 have KA := (W3_a a b c d w).on hb1
 have KB := (W3_b a b c d w).on hb1
 have KR := (W3_r a b c d w).on hb1
 have hl : w.heap.size ≤ w.heap.size + 1 + 1 := by omega
 obtain ⟨a10, a11⟩ := KA.two
 obtain ⟨b10, b11⟩ := KB.two
 go_wp2_with fail
 refine (hT _).mono ?_
 rintro e w2 ⟨rfl, hb2⟩
 replace hb := hb.then_ hb2
 replace KA := KA.on hb2
 replace KB := KB.on hb2
 replace KR := KR.on hb2
 clear a10 a11 b10 b11
 obtain ⟨a10, a11⟩ := KA.two
 obtain ⟨b10, b11⟩ := KB.two
 have q0 := KR.free 0
 have q1 := KR.free 1
 obtain ⟨r0, r1⟩ := KR.two
 have Kz : Known _ _ _ #[.int .i64 (0), .int .i64 (1)] := (KR.put 0 (.int .i64 (0))).put 1 (.int .i64 (1))
 obtain ⟨z0, z1⟩ := Kz.two
 go_wp2_with fail
 exact bodyPost_ret (v := .tuple #[.agg #[.int .i64 (0), .int .i64 (1)], .int .i64 (0)]) (by simp [results, Tryz.results114, go_sem, z0, z1]) rfl ⟨rfl, (hb.setCell (p := ⟨w.heap.size + 1 + 1, 0, none⟩) hl _).setCell (p := ⟨w.heap.size + 1 + 1, 1, none⟩) hl _⟩
theorem apply_and_11 (a b c d : Int) (w : World) (i1 : I64 a) (i2 : I64 b) (i3 : I64 c) (i4 : I64 d) (ha : ¬ a = 0) (hc : ¬ c = 0) :
  Calls Tryz.prog 114 #[.string ⟨#[97, 110, 100]⟩, .agg #[.int .i64 a, .int .i64 b], .agg #[.int .i64 c, .int .i64 d]] w fun e w' => e = .returned (.tuple #[.agg #[.int .i64 (1), .int .i64 (1)], .int .i64 (0)]) ∧ Below w.heap.size w w' := by
 have hC := cmp_any a b c d i1 i2 i3 i4
 unfold RetI at hC
 have g1 : (a != 0) = true := by simpa using ha
 have g2 : (a == 0) = false := by simpa using ha
 have g3 : (c != 0) = true := by simpa using hc
 have g4 : (c == 0) = false := by simpa using hc
 generalize cmpN a b c d = C at *
 clear ha hc
 have hT := truth_true
 go_enter Tryz.func114, Tryz.ntmps114
 go_wp2_with fail
 refine (hC _).mono ?_
 rintro e w1 ⟨rfl, hb1⟩
 change Below (W3 a b c d w).heap.size (W3 a b c d w) w1 at hb1
 have hb := (W3_below a b c d w).then_ hb1
 have KA := (W3_a a b c d w).on hb1
 have KB := (W3_b a b c d w).on hb1
 have KR := (W3_r a b c d w).on hb1
 have hl : w.heap.size ≤ w.heap.size + 1 + 1 := by omega
 obtain ⟨a10, a11⟩ := KA.two
 obtain ⟨b10, b11⟩ := KB.two
 go_wp2_with fail
 refine (hT _).mono ?_
 rintro e w2 ⟨rfl, hb2⟩
 replace hb := hb.then_ hb2
 replace KA := KA.on hb2
 replace KB := KB.on hb2
 replace KR := KR.on hb2
 clear a10 a11 b10 b11
 obtain ⟨a10, a11⟩ := KA.two
 obtain ⟨b10, b11⟩ := KB.two
 have q0 := KR.free 0
 have q1 := KR.free 1
 obtain ⟨r0, r1⟩ := KR.two
 have Kz : Known _ _ _ #[.int .i64 (1), .int .i64 (1)] := (KR.put 0 (.int .i64 (1))).put 1 (.int .i64 (1))
 obtain ⟨z0, z1⟩ := Kz.two
 go_wp2_with fail
 exact bodyPost_ret (v := .tuple #[.agg #[.int .i64 (1), .int .i64 (1)], .int .i64 (0)]) (by simp [results, Tryz.results114, go_sem, z0, z1]) rfl ⟨rfl, (hb.setCell (p := ⟨w.heap.size + 1 + 1, 0, none⟩) hl _).setCell (p := ⟨w.heap.size + 1 + 1, 1, none⟩) hl _⟩
theorem apply_or_00 (op : ByteArray) (a b c d : Int) (w : World) (i1 : I64 a) (i2 : I64 b) (i3 : I64 c) (i4 : I64 d) (h0 : (op.toList == [43]) = false) (h1 : (op.toList == [45]) = false) (h2 : (op.toList == [42]) = false) (h3 : (op.toList == [47]) = false) (h4 : (op.toList == [109, 111, 100]) = false) (h5 : (op.toList == [94]) = false) (h6 : (op.toList == [114, 111, 117, 110, 100]) = false) (h7 : (op.toList == [61]) = false) (h8 : (op.toList == [60, 62]) = false) (h9 : (op.toList == [60]) = false) (h10 : (op.toList == [62]) = false) (h11 : (op.toList == [60, 61]) = false) (h12 : (op.toList == [62, 61]) = false) (h13 : (op.toList == [97, 110, 100]) = false) (ha : a = 0) (hc : c = 0) :
  Calls Tryz.prog 114 #[.string op, .agg #[.int .i64 a, .int .i64 b], .agg #[.int .i64 c, .int .i64 d]] w fun e w' => e = .returned (.tuple #[.agg #[.int .i64 (0), .int .i64 (1)], .int .i64 (0)]) ∧ Below w.heap.size w w' := by
 have hC := cmp_any a b c d i1 i2 i3 i4
 unfold RetI at hC
 have g1 : (a != 0) = false := by simpa using ha
 have g2 : (a == 0) = true := by simpa using ha
 have g3 : (c != 0) = false := by simpa using hc
 have g4 : (c == 0) = true := by simpa using hc
 generalize cmpN a b c d = C at *
 clear ha hc
 have hT := truth_false
 go_enter Tryz.func114, Tryz.ntmps114
 go_wp2_with fail
 refine (hC _).mono ?_
 rintro e w1 ⟨rfl, hb1⟩
 change Below (W3 a b c d w).heap.size (W3 a b c d w) w1 at hb1
 have hb := (W3_below a b c d w).then_ hb1
 have KA := (W3_a a b c d w).on hb1
 have KB := (W3_b a b c d w).on hb1
 have KR := (W3_r a b c d w).on hb1
 have hl : w.heap.size ≤ w.heap.size + 1 + 1 := by omega
 obtain ⟨a10, a11⟩ := KA.two
 obtain ⟨b10, b11⟩ := KB.two
 go_wp2_with fail
 refine (hT _).mono ?_
 rintro e w2 ⟨rfl, hb2⟩
 replace hb := hb.then_ hb2
 replace KA := KA.on hb2
 replace KB := KB.on hb2
 replace KR := KR.on hb2
 clear a10 a11 b10 b11
 obtain ⟨a10, a11⟩ := KA.two
 obtain ⟨b10, b11⟩ := KB.two
 have q0 := KR.free 0
 have q1 := KR.free 1
 obtain ⟨r0, r1⟩ := KR.two
 have Kz : Known _ _ _ #[.int .i64 (0), .int .i64 (1)] := (KR.put 0 (.int .i64 (0))).put 1 (.int .i64 (1))
 obtain ⟨z0, z1⟩ := Kz.two
 go_wp2_with fail
 exact bodyPost_ret (v := .tuple #[.agg #[.int .i64 (0), .int .i64 (1)], .int .i64 (0)]) (by simp [results, Tryz.results114, go_sem, z0, z1]) rfl ⟨rfl, (hb.setCell (p := ⟨w.heap.size + 1 + 1, 0, none⟩) hl _).setCell (p := ⟨w.heap.size + 1 + 1, 1, none⟩) hl _⟩
theorem apply_or_01 (op : ByteArray) (a b c d : Int) (w : World) (i1 : I64 a) (i2 : I64 b) (i3 : I64 c) (i4 : I64 d) (h0 : (op.toList == [43]) = false) (h1 : (op.toList == [45]) = false) (h2 : (op.toList == [42]) = false) (h3 : (op.toList == [47]) = false) (h4 : (op.toList == [109, 111, 100]) = false) (h5 : (op.toList == [94]) = false) (h6 : (op.toList == [114, 111, 117, 110, 100]) = false) (h7 : (op.toList == [61]) = false) (h8 : (op.toList == [60, 62]) = false) (h9 : (op.toList == [60]) = false) (h10 : (op.toList == [62]) = false) (h11 : (op.toList == [60, 61]) = false) (h12 : (op.toList == [62, 61]) = false) (h13 : (op.toList == [97, 110, 100]) = false) (ha : a = 0) (hc : ¬ c = 0) :
  Calls Tryz.prog 114 #[.string op, .agg #[.int .i64 a, .int .i64 b], .agg #[.int .i64 c, .int .i64 d]] w fun e w' => e = .returned (.tuple #[.agg #[.int .i64 (1), .int .i64 (1)], .int .i64 (0)]) ∧ Below w.heap.size w w' := by
 have hC := cmp_any a b c d i1 i2 i3 i4
 unfold RetI at hC
 have g1 : (a != 0) = false := by simpa using ha
 have g2 : (a == 0) = true := by simpa using ha
 have g3 : (c != 0) = true := by simpa using hc
 have g4 : (c == 0) = false := by simpa using hc
 generalize cmpN a b c d = C at *
 clear ha hc
 have hT := truth_true
 go_enter Tryz.func114, Tryz.ntmps114
 go_wp2_with fail
 refine (hC _).mono ?_
 rintro e w1 ⟨rfl, hb1⟩
 change Below (W3 a b c d w).heap.size (W3 a b c d w) w1 at hb1
 have hb := (W3_below a b c d w).then_ hb1
 have KA := (W3_a a b c d w).on hb1
 have KB := (W3_b a b c d w).on hb1
 have KR := (W3_r a b c d w).on hb1
 have hl : w.heap.size ≤ w.heap.size + 1 + 1 := by omega
 obtain ⟨a10, a11⟩ := KA.two
 obtain ⟨b10, b11⟩ := KB.two
 go_wp2_with fail
 refine (hT _).mono ?_
 rintro e w2 ⟨rfl, hb2⟩
 replace hb := hb.then_ hb2
 replace KA := KA.on hb2
 replace KB := KB.on hb2
 replace KR := KR.on hb2
 clear a10 a11 b10 b11
 obtain ⟨a10, a11⟩ := KA.two
 obtain ⟨b10, b11⟩ := KB.two
 have q0 := KR.free 0
 have q1 := KR.free 1
 obtain ⟨r0, r1⟩ := KR.two
 have Kz : Known _ _ _ #[.int .i64 (1), .int .i64 (1)] := (KR.put 0 (.int .i64 (1))).put 1 (.int .i64 (1))
 obtain ⟨z0, z1⟩ := Kz.two
 go_wp2_with fail
 exact bodyPost_ret (v := .tuple #[.agg #[.int .i64 (1), .int .i64 (1)], .int .i64 (0)]) (by simp [results, Tryz.results114, go_sem, z0, z1]) rfl ⟨rfl, (hb.setCell (p := ⟨w.heap.size + 1 + 1, 0, none⟩) hl _).setCell (p := ⟨w.heap.size + 1 + 1, 1, none⟩) hl _⟩
theorem apply_or_11 (op : ByteArray) (a b c d : Int) (w : World) (i1 : I64 a) (i2 : I64 b) (i3 : I64 c) (i4 : I64 d) (h0 : (op.toList == [43]) = false) (h1 : (op.toList == [45]) = false) (h2 : (op.toList == [42]) = false) (h3 : (op.toList == [47]) = false) (h4 : (op.toList == [109, 111, 100]) = false) (h5 : (op.toList == [94]) = false) (h6 : (op.toList == [114, 111, 117, 110, 100]) = false) (h7 : (op.toList == [61]) = false) (h8 : (op.toList == [60, 62]) = false) (h9 : (op.toList == [60]) = false) (h10 : (op.toList == [62]) = false) (h11 : (op.toList == [60, 61]) = false) (h12 : (op.toList == [62, 61]) = false) (h13 : (op.toList == [97, 110, 100]) = false) (ha : ¬ a = 0) :
  Calls Tryz.prog 114 #[.string op, .agg #[.int .i64 a, .int .i64 b], .agg #[.int .i64 c, .int .i64 d]] w fun e w' => e = .returned (.tuple #[.agg #[.int .i64 (1), .int .i64 (1)], .int .i64 (0)]) ∧ Below w.heap.size w w' := by
 have hC := cmp_any a b c d i1 i2 i3 i4
 unfold RetI at hC
 have g1 : (a != 0) = true := by simpa using ha
 have g2 : (a == 0) = false := by simpa using ha
 generalize cmpN a b c d = C at *
 clear ha
 have hT := truth_true
 go_enter Tryz.func114, Tryz.ntmps114
 go_wp2_with fail
 refine (hC _).mono ?_
 rintro e w1 ⟨rfl, hb1⟩
 change Below (W3 a b c d w).heap.size (W3 a b c d w) w1 at hb1
 have hb := (W3_below a b c d w).then_ hb1
 have KA := (W3_a a b c d w).on hb1
 have KB := (W3_b a b c d w).on hb1
 have KR := (W3_r a b c d w).on hb1
 have hl : w.heap.size ≤ w.heap.size + 1 + 1 := by omega
 obtain ⟨a10, a11⟩ := KA.two
 obtain ⟨b10, b11⟩ := KB.two
 go_wp2_with fail
 refine (hT _).mono ?_
 rintro e w2 ⟨rfl, hb2⟩
 replace hb := hb.then_ hb2
 replace KA := KA.on hb2
 replace KB := KB.on hb2
 replace KR := KR.on hb2
 clear a10 a11 b10 b11
 obtain ⟨a10, a11⟩ := KA.two
 obtain ⟨b10, b11⟩ := KB.two
 have q0 := KR.free 0
 have q1 := KR.free 1
 obtain ⟨r0, r1⟩ := KR.two
 have Kz : Known _ _ _ #[.int .i64 (1), .int .i64 (1)] := (KR.put 0 (.int .i64 (1))).put 1 (.int .i64 (1))
 obtain ⟨z0, z1⟩ := Kz.two
 go_wp2_with fail
 exact bodyPost_ret (v := .tuple #[.agg #[.int .i64 (1), .int .i64 (1)], .int .i64 (0)]) (by simp [results, Tryz.results114, go_sem, z0, z1]) rfl ⟨rfl, (hb.setCell (p := ⟨w.heap.size + 1 + 1, 0, none⟩) hl _).setCell (p := ⟨w.heap.size + 1 + 1, 1, none⟩) hl _⟩
theorem apply_any (op : ByteArray) (a b c d : Int) (v1 : Num.val a b = true) (v2 : Num.val c d = true) : Ret 114 #[.string op, .agg #[.int .i64 a, .int .i64 b], .agg #[.int .i64 c, .int .i64 d]] (applyV op a b c d) := by
 intro w
 obtain ⟨i1, i2⟩ := val_i64 v1
 obtain ⟨i3, i4⟩ := val_i64 v2
 unfold applyV
 by_cases h0 : op = ⟨#[43]⟩
 ·rw [if_pos h0]; subst h0
  exact apply_plus a b c d w i1 i2 i3 i4
 rw [if_neg h0]
 by_cases h1 : op = ⟨#[45]⟩
 ·rw [if_pos h1]; subst h1
  exact apply_minus a b c d w i1 i2 i3 i4
 rw [if_neg h1]
 by_cases h2 : op = ⟨#[42]⟩
 ·rw [if_pos h2]; subst h2
  exact apply_times a b c d w i1 i2 i3 i4
 rw [if_neg h2]
 by_cases h3 : op = ⟨#[47]⟩
 ·rw [if_pos h3]; subst h3
  exact apply_over a b c d w i1 i2 i3 i4
 rw [if_neg h3]
 by_cases h4 : op = ⟨#[109, 111, 100]⟩
 ·rw [if_pos h4]; subst h4
  exact apply_mod a b c d w i1 i2 i3 i4
 rw [if_neg h4]
 by_cases h5 : op = ⟨#[94]⟩
 ·rw [if_pos h5]; subst h5
  exact apply_hat a b c d w i1 i2 i3 i4 v1
 rw [if_neg h5]
 by_cases h6 : op = ⟨#[114, 111, 117, 110, 100]⟩
 ·rw [if_pos h6]; subst h6
  unfold roundsV
  cases h : wholeB c d 0 9
  ·exact apply_round_no a b c d w i1 i2 i3 i4 h
  ·rw [if_pos rfl]; exact apply_round a b c d w i1 i2 i3 i4 h
 rw [if_neg h6]
 by_cases h7 : op = ⟨#[61]⟩
 ·rw [if_pos h7]; subst h7
  cases g : (cmpN a b c d == 0)
  ·exact apply_eq_false a b c d w i1 i2 i3 i4 g
  ·exact apply_eq_true a b c d w i1 i2 i3 i4 g
 rw [if_neg h7]
 by_cases h8 : op = ⟨#[60, 62]⟩
 ·rw [if_pos h8]; subst h8
  cases g : (cmpN a b c d != 0)
  ·exact apply_ne_false a b c d w i1 i2 i3 i4 g
  ·exact apply_ne_true a b c d w i1 i2 i3 i4 g
 rw [if_neg h8]
 by_cases h9 : op = ⟨#[60]⟩
 ·rw [if_pos h9]; subst h9
  cases g : decide (cmpN a b c d < 0)
  ·exact apply_lt_false a b c d w i1 i2 i3 i4 g
  ·exact apply_lt_true a b c d w i1 i2 i3 i4 g
 rw [if_neg h9]
 by_cases h10 : op = ⟨#[62]⟩
 ·rw [if_pos h10]; subst h10
  cases g : decide (0 < cmpN a b c d)
  ·exact apply_gt_false a b c d w i1 i2 i3 i4 g
  ·exact apply_gt_true a b c d w i1 i2 i3 i4 g
 rw [if_neg h10]
 by_cases h11 : op = ⟨#[60, 61]⟩
 ·rw [if_pos h11]; subst h11
  cases g : decide (cmpN a b c d ≤ 0)
  ·exact apply_le_false a b c d w i1 i2 i3 i4 g
  ·exact apply_le_true a b c d w i1 i2 i3 i4 g
 rw [if_neg h11]
 by_cases h12 : op = ⟨#[62, 61]⟩
 ·rw [if_pos h12]; subst h12
  cases g : decide (0 ≤ cmpN a b c d)
  ·exact apply_ge_false a b c d w i1 i2 i3 i4 g
  ·exact apply_ge_true a b c d w i1 i2 i3 i4 g
 rw [if_neg h12]
 by_cases h13 : op = ⟨#[97, 110, 100]⟩
 ·rw [if_pos h13]; subst h13
  by_cases ha : a = 0
  ·subst ha; exact apply_and_00 0 b c d w i1 i2 i3 i4 rfl
  ·by_cases hc : c = 0
   ·subst hc
    have g : (a != 0 && (0 : Int) != 0) = false := by simp
    rw [g]; exact apply_and_10 a b 0 d w i1 i2 i3 i4 ha rfl
   ·have g : (a != 0 && c != 0) = true := by simp [ha, hc]
    rw [g]; exact apply_and_11 a b c d w i1 i2 i3 i4 ha hc
 rw [if_neg h13]
 by_cases ha : a = 0
 ·by_cases hc : c = 0
  ·have g : (a != 0 || c != 0) = false := by simp [ha, hc]
   rw [g]; exact apply_or_00 op a b c d w i1 i2 i3 i4 (str_nel h0) (str_nel h1) (str_nel h2) (str_nel h3) (str_nel h4) (str_nel h5) (str_nel h6) (str_nel h7) (str_nel h8) (str_nel h9) (str_nel h10) (str_nel h11) (str_nel h12) (str_nel h13) ha hc
  ·have g : (a != 0 || c != 0) = true := by simp [hc]
   rw [g]; exact apply_or_01 op a b c d w i1 i2 i3 i4 (str_nel h0) (str_nel h1) (str_nel h2) (str_nel h3) (str_nel h4) (str_nel h5) (str_nel h6) (str_nel h7) (str_nel h8) (str_nel h9) (str_nel h10) (str_nel h11) (str_nel h12) (str_nel h13) ha hc
 ·have g : (a != 0 || c != 0) = true := by simp [ha]
  rw [g]; exact apply_or_11 op a b c d w i1 i2 i3 i4 (str_nel h0) (str_nel h1) (str_nel h2) (str_nel h3) (str_nel h4) (str_nel h5) (str_nel h6) (str_nel h7) (str_nel h8) (str_nel h9) (str_nel h10) (str_nel h11) (str_nel h12) (str_nel h13) ha
end Go.Proofs.YtcklofamaooegaaGreatDoor
