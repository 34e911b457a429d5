/-
  The claim's own texts, packed. Conditions: those typed in each theorem.
-/
import Derived.Test.YtcklofamaooegaaGreatDoorZKaap
import Derived.Test.YtcklofamaooegaaGreatDoorZKaaq
import Derived.Test.YtcklofamaooegaaGreatDoorZKaav
import Derived.Deep.RegionWith
import Derived.Deep.Cut
set_option maxHeartbeats 4000000
set_option maxRecDepth 10000
set_option linter.unusedVariables false
namespace Go.Proofs.YtcklofamaooegaaGreatDoor
open Go.RowKit
theorem cmpR_any (a b c d : Int) (i1 : I64 a) (i2 : I64 b) (i3 : I64 c) (i4 : I64 d) : RetI 207 a b c d (cmpN a b c d) := fun w => compareR a b c d w i1 i2 i3 i4
theorem truR_true (w : World) : Calls Tryz.prog 205 #[.bool true] w fun e w' => e = .returned (.agg #[.int .i64 1, .int .i64 1]) ∧ Below w.heap.size w w' := by
 go_enter Tryz.func205, Tryz.ntmps205
 go_wp2_with fail
 exact bodyPost_ret (v := .agg #[.int .i64 1, .int .i64 1]) (by simp [results, Tryz.results205, go_sem]) rfl ⟨rfl, below_new0 _ _⟩
theorem truR_false (w : World) : Calls Tryz.prog 205 #[.bool false] w fun e w' => e = .returned (.agg #[.int .i64 0, .int .i64 1]) ∧ Below w.heap.size w w' := by
 go_enter Tryz.func205, Tryz.ntmps205
 go_wp2_with fail
 exact bodyPost_ret (v := .agg #[.int .i64 0, .int .i64 1]) (by simp [results, Tryz.results205, go_sem]) rfl ⟨rfl, below_new0 _ _⟩
theorem truR_any (b : Bool) (w : World) : Calls Tryz.prog 205 #[.bool b] w fun e w' => e = .returned (.agg #[.int .i64 (truthV b), .int .i64 1]) ∧ Below w.heap.size w w' := by
 cases b
 ·exact truR_false w
 ·exact truR_true w
theorem whole_facts {a b lo hi : Int} (h : wholeB a b lo hi = true) : (b != 1) = false ∧ decide (a < lo) = false ∧ decide (hi < a) = false := by
 simp [wholeB] at h
 obtain ⟨rfl, h1, h2⟩ := h
 refine ⟨by simp, by simp; omega, by simp; omega⟩
theorem whole_nofacts {a b lo hi : Int} (h : wholeB a b lo hi = false) : (b != 1) = true ∨ ((b != 1) = false ∧ decide (a < lo) = true) ∨ ((b != 1) = false ∧ decide (a < lo) = false ∧ decide (hi < a) = true) := by
 by_cases g1 : b = 1
 ·by_cases g2 : a < lo
  ·exact .inr (.inl ⟨by simp [g1], by simpa using g2⟩)
  ·by_cases g3 : hi < a
   ·exact .inr (.inr ⟨by simp [g1], by simpa using g2, by simpa using g3⟩)
   ·exfalso
    have : wholeB a b lo hi = true := by simp only [wholeB, decide_eq_true_eq]; exact ⟨g1, by omega, by omega⟩
    rw [this] at h; cases h
 ·exact .inl (by simpa using g1)
def powR (a b : Int) : Nat → Int × Int × Int
 | 0 => (1, 1, 0)
 | k + 1 => powV a b k
theorem mul_one' {a b : Int} (v : Num.val a b = true) : mulV 1 1 a b = (a, b, 0) := by
 unfold mulV
 rw [opV_ok (by decide) v (.inl rfl), Int.one_mul, Int.one_mul]
 exact Num.red_val_self v
theorem powR_ok {a b : Int} (v : Num.val a b = true) : ∀ k, (powR a b k).2.2 = 0 → Num.val (powR a b k).1 (powR a b k).2.1 = true
 | 0, _ => show Num.val 1 1 = true by decide
 | k + 1, h => powV_ok v k h
theorem powR_step {a b : Int} (v : Num.val a b = true) (k : Nat) (h : (powR a b k).2.2 = 0) :
  powR a b (k + 1) = (if (mulV (powR a b k).1 (powR a b k).2.1 a b).2.2 = 0 then mulV (powR a b k).1 (powR a b k).2.1 a b else (0, 0, (mulV (powR a b k).1 (powR a b k).2.1 a b).2.2)) := by
 cases k with
 | zero =>
   show powV a b 0 = _
   simp only [powR, mul_one' v, if_true, powV]
 | succ k =>
   show powV a b (k + 1) = _
   simp only [powR] at h ⊢
   rw [powV]
   simp only [h, if_true]
   rfl
theorem powR_err {a b : Int} {k : Nat} (h : (powR a b (k + 1)).2.2 ≠ 0) (m : Nat) : powR a b (k + 1 + m) = powR a b (k + 1) := by
 rw [show k + 1 + m = (k + m) + 1 by omega]
 exact powV_err h m
theorem raise_powR {a b c d : Int} (h : wholeB c d 0 30 = true) : raiseV a b c d = powR a b c.toNat := by
 have hc : 0 ≤ c := by simp [wholeB] at h; omega
 unfold raiseV
 rw [if_pos h]
 by_cases h0 : c = 0
 ·subst h0; rfl
 ·rw [if_neg h0]
  obtain ⟨m, rfl⟩ : ∃ m : Nat, c = m + 1 := ⟨c.toNat - 1, by omega⟩
  rw [show ((m : Int) + 1).toNat = m + 1 by omega]
  rfl
theorem powRef_no (a b c d : Int) (w : World) (h : wholeB c d 0 30 = false) :
  Calls Tryz.prog 212 #[.agg #[.int .i64 a, .int .i64 b], .agg #[.int .i64 c, .int .i64 d]] w fun e w' => e = .returned (.tuple #[.agg #[.int .i64 0, .int .i64 0], .int .i64 2]) ∧ Below w.heap.size w w' := by
 have hb := W3_below a b c d w
 have KR := W3_r a b c d w
 have Kz : Known _ _ _ #[.int .i64 0, .int .i64 0] := (KR.put 0 (.int .i64 0)).put 1 (.int .i64 0)
 obtain ⟨z0, z1⟩ := Kz.two
 unfold W3 at z0 z1 hb
 have hl : w.heap.size ≤ w.heap.size + 1 + 1 := by omega
 clear KR Kz
 rcases whole_nofacts h with g1 | ⟨g1, g2⟩ | ⟨g1, g2, g3⟩
 all_goals
  clear h
  go_enter Tryz.func212, Tryz.ntmps212
  go_wp2_with fail
  exact bodyPost_ret (v := .tuple #[.agg #[.int .i64 0, .int .i64 0], .int .i64 2]) (by first | (simp [results, Tryz.results212, go_sem]; done) | simp [results, Tryz.results212, go_sem, z0, z1]) rfl ⟨rfl, by first | exact hb | exact (hb.setCell (p := ⟨w.heap.size + 1 + 1, 0, none⟩) hl _).setCell (p := ⟨w.heap.size + 1 + 1, 1, none⟩) hl _⟩
theorem powRef_ok (a b c d : Int) (m : Nat) (w : World) (h : wholeB c d 0 30 = true) (hm : c = m) (v : Num.val a b = true) :
  Calls Tryz.prog 212 #[.agg #[.int .i64 a, .int .i64 b], .agg #[.int .i64 c, .int .i64 d]] w fun e w' => e = .returned (.tuple #[.agg #[.int .i64 (powR a b m).1, .int .i64 (powR a b m).2.1], .int .i64 (powR a b m).2.2]) ∧ Below w.heap.size w w' := by
 obtain ⟨g1, g2, g3⟩ := whole_facts h
 have hm30 : m ≤ 30 := by simp [wholeB] at h; omega
 have hv := val_i64 v
 have hT := truR_true
 obtain ⟨R, hR⟩ : ∃ R, powR a b m = R := ⟨_, rfl⟩
 rw [hR]
 have HR := Lib.hid hR
 have HM := Lib.hid hm
 clear hR h hm
 go_enter Tryz.func212, Tryz.ntmps212
 go_wp2_with fail
 refine (hT _).mono ?_
 rintro e w1 ⟨rfl, hb1⟩
 change Below (W3 a b c d w).heap.size (W3 a b c d w) w1 at hb1
 have hb := (W3_below a b c d w).then_ hb1
 have KA := ((W3_a a b c d w).on hb1).alloc (.cells #[.int .i64 1, .int .i64 1] 50)
 have KB := ((W3_b a b c d w).on hb1).alloc (.cells #[.int .i64 1, .int .i64 1] 50)
 have KR0 := (W3_r a b c d w).on hb1
 have hrl := KR0.lt
 have KR := KR0.alloc (.cells #[.int .i64 1, .int .i64 1] 50)
 have hl : w.heap.size ≤ w.heap.size + 1 + 1 := by omega
 have hb2 := hb.alloc hb.size (.cells #[.int .i64 1, .int .i64 1] 50)
 have KO := Known.made w1 50 #[.int .i64 1, .int .i64 1]
 clear hT KR0 g1 g2 g3
 go_wp2_with fail
 go_loopg [7, 8, 9] (m + 1) (fun q s7 s8 s9 wr => ∃ (k : Nat), k ≤ m ∧ m - k < q ∧ (powR a b k).2.2 = 0 ∧ s7 = .int .i64 k ∧ Known wr w1.heap.size 50 #[.int .i64 (powR a b k).1, .int .i64 (powR a b k).2.1] ∧ Known wr w.heap.size 50 #[.int .i64 a, .int .i64 b] ∧ Known wr (w.heap.size + 1) 50 #[.int .i64 c, .int .i64 d] ∧ Known wr (w.heap.size + 1 + 1) 50 #[.int .i64 0, .int .i64 0] ∧ Below w.heap.size w wr)
 case atStart => exact ⟨0, by omega, by omega, rfl, rfl, KO, KA, KB, KR, hb2⟩
 case round =>
  obtain ⟨k, hk, hq, he, rfl, ko, ka, kb, kr, hbr⟩ := hrel
  have hcm := HM.out
  have hvk := powR_ok v k he
  have hik := val_i64 hvk
  have hs1 : w1.heap.size ≠ w.heap.size := by omega
  have hs2 : w1.heap.size ≠ w.heap.size + 1 := by omega
  have hs3 : w1.heap.size ≠ w.heap.size + 1 + 1 := by omega
  have hlo := ko.lt
  by_cases hlt : k < m
  ·have hM := mulR_any (powR a b k).1 (powR a b k).2.1 a b hik.1 hik.2 hv.1 hv.2
   unfold Ret args2 at hM
   have hst := powR_step v k he
   generalize hMe : mulV (powR a b k).1 (powR a b k).2.1 a b = M at *
   generalize (powR a b k).1 = x at *
   generalize (powR a b k).2.1 = y at *
   obtain ⟨o0, o1⟩ := ko.two
   obtain ⟨p0, p1⟩ := ka.two
   obtain ⟨b0, b1⟩ := kb.two
   have dl : decide ((k : Int) < c) = true := by rw [decide_eq_true_eq, hcm]; omega
   have HS := Lib.hid hst
   clear hst hMe he hvk hik KO KA KB KR hb2 hb hcm
   go_wp2_with fail
   refine (hM _).mono ?_
   rintro e w2 ⟨rfl, hbm⟩
   replace ko := ko.on hbm
   replace ka := ka.on hbm
   replace kb := kb.on hbm
   replace kr := kr.on hbm
   replace hbr := hbr.then_ hbm
   clear o0 o1 p0 p1 b0 b1
   obtain ⟨o0, o1⟩ := ko.two
   have f0 := ko.free 0
   have f1 := ko.free 1
   have hlo2 := ko.lt
   have hw1 : w.heap.size ≤ w1.heap.size := by omega
   have hw2 : w.heap.size ≤ w2.heap.size := by omega
   by_cases hz : M.2.2 = 0
   ·have hz' : (M.2.2 != 0) = false := by simpa using hz
    go_wp2_with fail
    go_roundg (m - (k + 1) + 1)
    case measure => omega
    case rel =>
     have e1 : powR a b (k + 1) = M := by rw [HS.out, if_pos hz]
     refine ⟨k + 1, by omega, by omega, by rw [e1]; exact hz, by go_num, ?_, (ka.setFar hs1.symm).alloc _, (kb.setFar hs2.symm).alloc _, (kr.setFar hs3.symm).alloc _, ((hbr.setCell (p := ⟨w1.heap.size, 0, none⟩) hw1 _).setCell (p := ⟨w1.heap.size, 1, none⟩) hw1 _).alloc (by simp; omega) _⟩
     rw [e1]
     exact ko.setNum.alloc _
   ·have hz' : (M.2.2 != 0) = true := by simpa using hz
    have e1 : powR a b (k + 1) = (0, 0, M.2.2) := by rw [HS.out, if_neg hz]
    have e2 : R = (0, 0, M.2.2) := by
     have h3 := powR_err (a := a) (b := b) (k := k) (by rw [e1]; exact hz) (m - (k + 1))
     rw [show k + 1 + (m - (k + 1)) = m by omega, HR.out] at h3
     rw [h3, e1]
    obtain ⟨r0, r1⟩ := kr.two
    have g0 := kr.free 0
    have g1 := kr.free 1
    have hrl2 := kr.lt
    have Kz : Known _ _ _ #[.int .i64 0, .int .i64 0] := ((kr.put 0 (.int .i64 0)).put 1 (.int .i64 0)).alloc (.cells #[.int .i64 M.1, .int .i64 M.2.1] 50)
    obtain ⟨z0, z1⟩ := Kz.two
    subst e2
    clear HS e1 HR
    go_wp2_with fail
    exact bodyPost_ret (v := .tuple #[.agg #[.int .i64 0, .int .i64 0], .int .i64 M.2.2]) (by simp [results, Tryz.results212, go_sem, z0, z1]) rfl ⟨rfl, ((hbr.setCell (p := ⟨w.heap.size + 1 + 1, 0, none⟩) hl _).setCell (p := ⟨w.heap.size + 1 + 1, 1, none⟩) hl _).alloc (by simp; omega) _⟩
  ·obtain rfl : k = m := by omega
   have e2 : R = powR a b k := HR.out.symm
   subst e2
   have dl : decide ((k : Int) < c) = false := by rw [decide_eq_false_iff_not, hcm]; omega
   clear hcm HR
   obtain ⟨o0, o1⟩ := ko.two
   obtain ⟨b0, b1⟩ := kb.two
   obtain ⟨r0, r1⟩ := kr.two
   have g0 := kr.free 0
   have g1 := kr.free 1
   have Kz : Known _ _ _ #[.int .i64 (powR a b k).1, .int .i64 (powR a b k).2.1] := (kr.put 0 (.int .i64 (powR a b k).1)).put 1 (.int .i64 (powR a b k).2.1)
   obtain ⟨z0, z1⟩ := Kz.two
   have HE := Lib.hid he
   clear HM KO KA KB KR hb2 hb hvk hik he
   go_wp2_with fail
   exact bodyPost_ret (v := .tuple #[.agg #[.int .i64 (powR a b k).1, .int .i64 (powR a b k).2.1], .int .i64 0]) (by simp [results, Tryz.results212, go_sem, z0, z1]) rfl ⟨by rw [HE.out], (hbr.setCell (p := ⟨w.heap.size + 1 + 1, 0, none⟩) hl _).setCell (p := ⟨w.heap.size + 1 + 1, 1, none⟩) hl _⟩
theorem powRef_any (a b c d : Int) (v : Num.val a b = true) : Ret 212 (args2 a b c d) (raiseV a b c d) := by
 intro w
 cases h : wholeB c d 0 30
 ·have e : raiseV a b c d = (0, 0, 2) := by unfold raiseV; rw [if_neg (by rw [h]; decide)]
  rw [e]
  exact powRef_no a b c d w h
 ·rw [raise_powR h]
  have hc : 0 ≤ c := by simp [wholeB] at h; omega
  exact powRef_ok a b c d c.toNat w h (by omega) v
theorem mk_int {k : Int} (h1 : -1000000000 ≤ k) (h2 : k ≤ 1000000000) : mkN k 1 = k ∧ mkD k 1 = 1 ∧ mkE k 1 = 0 := by
 have hB : mkB k 1 = true := by simp [mkB, inV]; omega
 have v : Num.val k 1 = true := by
  rw [Num.val_iff]
  exact ⟨h1, h2, by omega, by omega, by simp⟩
 have e := Num.red_val_self v
 unfold mkN mkD mkE
 rw [if_pos hB, if_pos hB, if_pos hB]
 exact ⟨congrArg (fun x => x.1) e, congrArg (fun x => x.2.1) e, congrArg (fun x => x.2.2) e⟩
theorem floor_in {a b : Int} (v : Num.val a b = true) : -1000000000 ≤ a / b ∧ a / b ≤ 1000000000 := by
 obtain ⟨h1, h2, h3, h4, -⟩ := Num.val_iff.1 v
 constructor
 ·rw [Int.le_ediv_iff_mul_le (by omega)]
  omega
 ·have : a / b ≤ 1000000000 / b ∨ a / b ≤ 1000000000 := by
   right
   by_cases ha : 0 ≤ a
   ·exact Int.le_trans (Int.ediv_le_self b ha) h2
   ·have := Int.ediv_neg_of_neg_of_pos (show a < 0 by omega) (show 0 < b by omega)
    omega
  rcases this with h | h
  ·exact Int.le_trans h (Int.ediv_le_self b (by omega))
  ·exact h
set_option maxRecDepth 20000 in
theorem one_minus (a b : Int) (w : World) (i1 : I64 a) (i2 : I64 b) :
  Calls Tryz.prog 144 #[.string ⟨#[45]⟩, .agg #[.int .i64 a, .int .i64 b]] w fun e w' => e = .returned (.tuple #[.agg #[.int .i64 (subV 0 1 a b).1, .int .i64 (subV 0 1 a b).2.1], .int .i64 (subV 0 1 a b).2.2]) ∧ Below w.heap.size w w' := by
 have hS := subR_any 0 1 a b (by unfold I64; omega) (by unfold I64; omega) i1 i2
 unfold Ret args2 at hS
 generalize subV 0 1 a b = R at *
 have hT := truR_false
 have hb := W2_below a b w
 have KA := (W2_a a b w).on (Below.refl _ _).drew
 have KR := (W2_r a b w).on (Below.refl _ _).drew
 have hl : w.heap.size ≤ w.heap.size + 1 := by omega
 obtain ⟨a10, a11⟩ := KA.two
 have hkeep : ∀ w1, Below (W2 a b w).drew.heap.size (W2 a b w).drew w1 → Known w1 w.heap.size 50 #[.int .i64 a, .int .i64 b] ∧ Known w1 (w.heap.size + 1) 50 #[.int .i64 0, .int .i64 0] ∧ Below w.heap.size w w1 := fun w1 h => ⟨KA.on h, KR.on h, hb.drew.then_ h⟩
 clear KA KR i1 i2 hb
 go_enter Tryz.func144, Tryz.ntmps144
 unfold W2 at *
 go_upto_region 3 with fail
 go_region_with (first
  | (go_at_call 205; (with_reducible refine (hT _).mono ?_); rintro e w1 ⟨rfl, hb1⟩; obtain ⟨KA, KR, hb⟩ := hkeep w1 hb1; obtain ⟨b10, b11⟩ := KA.two; clear KA)
  | (go_at_call 204; (with_reducible refine (hS _).mono ?_); rintro e w2 ⟨rfl, hb2⟩; have KR2 := KR.on hb2; have hb3 := hb.then_ hb2; have q0 := KR2.free 0; have q1 := KR2.free 1; obtain ⟨r0, r1⟩ := KR2.two))
 all_goals
  have Kz : Known _ _ _ #[.int .i64 R.1, .int .i64 R.2.1] := (KR2.put 0 (.int .i64 R.1)).put 1 (.int .i64 R.2.1)
  obtain ⟨z0, z1⟩ := Kz.two
  clear hkeep hT hS KR
  go_wp2_with fail
  exact bodyPost_ret (v := .tuple #[.agg #[.int .i64 R.1, .int .i64 R.2.1], .int .i64 R.2.2]) (by simp [results, Tryz.results144, go_sem, z0, z1]) rfl ⟨rfl, (hb3.setCell (p := ⟨w.heap.size + 1, 0, none⟩) hl _).setCell (p := ⟨w.heap.size + 1, 1, none⟩) hl _⟩
theorem one_not (a b : Int) (z : Bool) (w : World) (g : (a == 0) = z) :
  Calls Tryz.prog 144 #[.string ⟨#[110, 111, 116]⟩, .agg #[.int .i64 a, .int .i64 b]] w fun e w' => e = .returned (.tuple #[.agg #[.int .i64 (truthV z), .int .i64 1], .int .i64 0]) ∧ Below w.heap.size w w' := by
 have hT := truR_any z
 generalize truthV z = u at *
 have hb := W2_below a b w
 have KA := W2_a a b w
 have KR := W2_r a b w
 have hl : w.heap.size ≤ w.heap.size + 1 := by omega
 unfold W2 at hb KA KR
 obtain ⟨a10, a11⟩ := KA.two
 go_enter Tryz.func144, Tryz.ntmps144
 go_wp2_with fail
 refine (hT _).mono ?_
 rintro e w1 ⟨rfl, hb1⟩
 replace hb := hb.then_ hb1
 replace KR := KR.on hb1
 clear a10 a11 KA
 have q0 := KR.free 0
 have q1 := KR.free 1
 obtain ⟨r0, r1⟩ := KR.two
 have Kz : Known _ _ _ #[.int .i64 u, .int .i64 1] := (KR.put 0 (.int .i64 u)).put 1 (.int .i64 1)
 obtain ⟨z0, z1⟩ := Kz.two
 go_wp2_with fail
 exact bodyPost_ret (v := .tuple #[.agg #[.int .i64 u, .int .i64 1], .int .i64 0]) (by simp [results, Tryz.results144, go_sem, z0, z1]) rfl ⟨rfl, (hb.setCell (p := ⟨w.heap.size + 1, 0, none⟩) hl _).setCell (p := ⟨w.heap.size + 1, 1, none⟩) hl _⟩
theorem one_floor (a b : Int) (w : World) (i1 : I64 a) (i2 : I64 b) (v : Num.val a b = true) :
  Calls Tryz.prog 144 #[.string ⟨#[102, 108, 111, 111, 114]⟩, .agg #[.int .i64 a, .int .i64 b]] w fun e w' => e = .returned (.tuple #[.agg #[.int .i64 (a / b), .int .i64 1], .int .i64 0]) ∧ Below w.heap.size w w' := by
 have hF := fun w => floorR_ok a b w i1 i2 v
 generalize a / b = k at *
 have hb := W2_below a b w
 have KA := W2_a a b w
 have KR := W2_r a b w
 have hl : w.heap.size ≤ w.heap.size + 1 := by omega
 unfold W2 at hb KA KR
 obtain ⟨a10, a11⟩ := KA.two
 go_enter Tryz.func144, Tryz.ntmps144
 go_wp2_with fail
 refine (hF _).mono ?_
 rintro e w1 ⟨rfl, hb1⟩
 replace hb := hb.then_ hb1
 replace KR := KR.on hb1
 clear a10 a11 KA
 have q0 := KR.free 0
 have q1 := KR.free 1
 obtain ⟨r0, r1⟩ := KR.two
 have Kz : Known _ _ _ #[.int .i64 k, .int .i64 1] := (KR.put 0 (.int .i64 k)).put 1 (.int .i64 1)
 obtain ⟨z0, z1⟩ := Kz.two
 go_wp2_with fail
 exact bodyPost_ret (v := .tuple #[.agg #[.int .i64 k, .int .i64 1], .int .i64 0]) (by simp [results, Tryz.results144, go_sem, z0, z1]) rfl ⟨rfl, (hb.setCell (p := ⟨w.heap.size + 1, 0, none⟩) hl _).setCell (p := ⟨w.heap.size + 1, 1, none⟩) hl _⟩
theorem one_same (op : ByteArray) (a b : Int) (w : World) (h0 : (op.toList == [45]) = false) (h1 : (op.toList == [110, 111, 116]) = false) (h2 : (op.toList == [102, 108, 111, 111, 114]) = false) :
  Calls Tryz.prog 144 #[.string op, .agg #[.int .i64 a, .int .i64 b]] w fun e w' => e = .returned (.tuple #[.agg #[.int .i64 a, .int .i64 b], .int .i64 0]) ∧ Below w.heap.size w w' := by
 have hb := W2_below a b w
 have KA := W2_a a b w
 have KR := W2_r a b w
 have hl : w.heap.size ≤ w.heap.size + 1 := by omega
 unfold W2 at hb KA KR
 obtain ⟨a10, a11⟩ := KA.two
 have q0 := KR.free 0
 have q1 := KR.free 1
 obtain ⟨r0, r1⟩ := KR.two
 go_enter Tryz.func144, Tryz.ntmps144
 go_wp2_with fail
 exact bodyPost_ret (v := .tuple #[.agg #[.int .i64 a, .int .i64 b], .int .i64 0]) (by simp [results, Tryz.results144, go_sem]) rfl ⟨rfl, by first | exact (hb.setCell (p := ⟨w.heap.size + 1, 0, none⟩) hl _).setCell (p := ⟨w.heap.size + 1, 1, none⟩) hl _ | (simp only [go_sem] at *; exact (below_new0 w _).then_ (below_new0 _ _)) | exact (below_new0 w _).then_ (below_new0 _ _)⟩
theorem one_any (op : ByteArray) (a b : Int) (v : Num.val a b = true) : Ret 144 #[.string op, .agg #[.int .i64 a, .int .i64 b]] (signV op a b) := by
 intro w
 obtain ⟨i1, i2⟩ := val_i64 v
 unfold signV
 by_cases h1 : op = ⟨#[45]⟩
 ·rw [if_pos h1]; subst h1; exact one_minus a b w i1 i2
 rw [if_neg h1]
 by_cases h2 : op = ⟨#[110, 111, 116]⟩
 ·rw [if_pos h2]; subst h2; exact one_not a b _ w rfl
 rw [if_neg h2]
 by_cases h3 : op = ⟨#[102, 108, 111, 111, 114]⟩
 ·rw [if_pos h3]; subst h3
  have e : floorV a b = (a / b, 0) := by unfold floorV; rw [if_pos v]
  obtain ⟨f1, f2⟩ := floor_in v
  obtain ⟨m1, m2, m3⟩ := mk_int f1 f2
  rw [e, if_pos rfl]
  simp only [m1, m2, m3]
  exact one_floor a b w i1 i2 v
 rw [if_neg h3]
 exact one_same op a b w (str_nel h1) (str_nel h2) (str_nel h3)
theorem two_plus (a b c d : Int) (w : World) (i1 : I64 a) (i2 : I64 b) (i3 : I64 c) (i4 : I64 d)  :
  Calls Tryz.prog 145 #[.string ⟨#[43]⟩, .agg #[.int .i64 a, .int .i64 b], .agg #[.int .i64 c, .int .i64 d]] w fun e w' => e = .returned (.tuple #[.agg #[.int .i64 ((addV a b c d).1), .int .i64 ((addV a b c d).2.1)], .int .i64 ((addV a b c d).2.2)]) ∧ Below w.heap.size w w' := by
 have hC := cmpR_any a b c d i1 i2 i3 i4
 unfold RetI at hC
 have hX := addR_any a b c d i1 i2 i3 i4
 unfold Ret args2 at hX
 generalize addV a b c d = R at *
 generalize cmpN a b c d = C at *
 go_enter Tryz.func145, Tryz.ntmps145
 go_wp2_with fail
 refine (hC _).mono ?_
 rintro e w1 ⟨rfl, hb1⟩
 change Below (W3 a b c d w).heap.size (W3 a b c d w) w1 at hb1
 have hb := (W3_below a b c d w).then_ hb1
 have KA := (W3_a a b c d w).on hb1
 have KB := (W3_b a b c d w).on hb1
 have KR := (W3_r a b c d w).on hb1
 have hl : w.heap.size ≤ w.heap.size + 1 + 1 := by omega
 obtain ⟨a10, a11⟩ := KA.two
 obtain ⟨b10, b11⟩ := KB.two
 go_wp2_with fail
 refine (hX _).mono ?_
 rintro e w2 ⟨rfl, hb2⟩
 replace hb := hb.then_ hb2
 replace KA := KA.on hb2
 replace KB := KB.on hb2
 replace KR := KR.on hb2
 clear a10 a11 b10 b11
 obtain ⟨a10, a11⟩ := KA.two
 obtain ⟨b10, b11⟩ := KB.two
 have q0 := KR.free 0
 have q1 := KR.free 1
 obtain ⟨r0, r1⟩ := KR.two
 have Kz : Known _ _ _ #[.int .i64 (R.1), .int .i64 (R.2.1)] := (KR.put 0 (.int .i64 (R.1))).put 1 (.int .i64 (R.2.1))
 obtain ⟨z0, z1⟩ := Kz.two
 go_wp2_with fail
 exact bodyPost_ret (v := .tuple #[.agg #[.int .i64 (R.1), .int .i64 (R.2.1)], .int .i64 (R.2.2)]) (by simp [results, Tryz.results145, go_sem, z0, z1]) rfl ⟨rfl, (hb.setCell (p := ⟨w.heap.size + 1 + 1, 0, none⟩) hl _).setCell (p := ⟨w.heap.size + 1 + 1, 1, none⟩) hl _⟩
theorem two_minus (a b c d : Int) (w : World) (i1 : I64 a) (i2 : I64 b) (i3 : I64 c) (i4 : I64 d)  :
  Calls Tryz.prog 145 #[.string ⟨#[45]⟩, .agg #[.int .i64 a, .int .i64 b], .agg #[.int .i64 c, .int .i64 d]] w fun e w' => e = .returned (.tuple #[.agg #[.int .i64 ((subV a b c d).1), .int .i64 ((subV a b c d).2.1)], .int .i64 ((subV a b c d).2.2)]) ∧ Below w.heap.size w w' := by
 have hC := cmpR_any a b c d i1 i2 i3 i4
 unfold RetI at hC
 have hX := subR_any a b c d i1 i2 i3 i4
 unfold Ret args2 at hX
 generalize subV a b c d = R at *
 generalize cmpN a b c d = C at *
 go_enter Tryz.func145, Tryz.ntmps145
 go_wp2_with fail
 refine (hC _).mono ?_
 rintro e w1 ⟨rfl, hb1⟩
 change Below (W3 a b c d w).heap.size (W3 a b c d w) w1 at hb1
 have hb := (W3_below a b c d w).then_ hb1
 have KA := (W3_a a b c d w).on hb1
 have KB := (W3_b a b c d w).on hb1
 have KR := (W3_r a b c d w).on hb1
 have hl : w.heap.size ≤ w.heap.size + 1 + 1 := by omega
 obtain ⟨a10, a11⟩ := KA.two
 obtain ⟨b10, b11⟩ := KB.two
 go_wp2_with fail
 refine (hX _).mono ?_
 rintro e w2 ⟨rfl, hb2⟩
 replace hb := hb.then_ hb2
 replace KA := KA.on hb2
 replace KB := KB.on hb2
 replace KR := KR.on hb2
 clear a10 a11 b10 b11
 obtain ⟨a10, a11⟩ := KA.two
 obtain ⟨b10, b11⟩ := KB.two
 have q0 := KR.free 0
 have q1 := KR.free 1
 obtain ⟨r0, r1⟩ := KR.two
 have Kz : Known _ _ _ #[.int .i64 (R.1), .int .i64 (R.2.1)] := (KR.put 0 (.int .i64 (R.1))).put 1 (.int .i64 (R.2.1))
 obtain ⟨z0, z1⟩ := Kz.two
 go_wp2_with fail
 exact bodyPost_ret (v := .tuple #[.agg #[.int .i64 (R.1), .int .i64 (R.2.1)], .int .i64 (R.2.2)]) (by simp [results, Tryz.results145, go_sem, z0, z1]) rfl ⟨rfl, (hb.setCell (p := ⟨w.heap.size + 1 + 1, 0, none⟩) hl _).setCell (p := ⟨w.heap.size + 1 + 1, 1, none⟩) hl _⟩
theorem two_times (a b c d : Int) (w : World) (i1 : I64 a) (i2 : I64 b) (i3 : I64 c) (i4 : I64 d)  :
  Calls Tryz.prog 145 #[.string ⟨#[42]⟩, .agg #[.int .i64 a, .int .i64 b], .agg #[.int .i64 c, .int .i64 d]] w fun e w' => e = .returned (.tuple #[.agg #[.int .i64 ((mulV a b c d).1), .int .i64 ((mulV a b c d).2.1)], .int .i64 ((mulV a b c d).2.2)]) ∧ Below w.heap.size w w' := by
 have hC := cmpR_any a b c d i1 i2 i3 i4
 unfold RetI at hC
 have hX := mulR_any a b c d i1 i2 i3 i4
 unfold Ret args2 at hX
 generalize mulV a b c d = R at *
 generalize cmpN a b c d = C at *
 go_enter Tryz.func145, Tryz.ntmps145
 go_wp2_with fail
 refine (hC _).mono ?_
 rintro e w1 ⟨rfl, hb1⟩
 change Below (W3 a b c d w).heap.size (W3 a b c d w) w1 at hb1
 have hb := (W3_below a b c d w).then_ hb1
 have KA := (W3_a a b c d w).on hb1
 have KB := (W3_b a b c d w).on hb1
 have KR := (W3_r a b c d w).on hb1
 have hl : w.heap.size ≤ w.heap.size + 1 + 1 := by omega
 obtain ⟨a10, a11⟩ := KA.two
 obtain ⟨b10, b11⟩ := KB.two
 go_wp2_with fail
 refine (hX _).mono ?_
 rintro e w2 ⟨rfl, hb2⟩
 replace hb := hb.then_ hb2
 replace KA := KA.on hb2
 replace KB := KB.on hb2
 replace KR := KR.on hb2
 clear a10 a11 b10 b11
 obtain ⟨a10, a11⟩ := KA.two
 obtain ⟨b10, b11⟩ := KB.two
 have q0 := KR.free 0
 have q1 := KR.free 1
 obtain ⟨r0, r1⟩ := KR.two
 have Kz : Known _ _ _ #[.int .i64 (R.1), .int .i64 (R.2.1)] := (KR.put 0 (.int .i64 (R.1))).put 1 (.int .i64 (R.2.1))
 obtain ⟨z0, z1⟩ := Kz.two
 go_wp2_with fail
 exact bodyPost_ret (v := .tuple #[.agg #[.int .i64 (R.1), .int .i64 (R.2.1)], .int .i64 (R.2.2)]) (by simp [results, Tryz.results145, go_sem, z0, z1]) rfl ⟨rfl, (hb.setCell (p := ⟨w.heap.size + 1 + 1, 0, none⟩) hl _).setCell (p := ⟨w.heap.size + 1 + 1, 1, none⟩) hl _⟩
theorem two_over (a b c d : Int) (w : World) (i1 : I64 a) (i2 : I64 b) (i3 : I64 c) (i4 : I64 d)  :
  Calls Tryz.prog 145 #[.string ⟨#[47]⟩, .agg #[.int .i64 a, .int .i64 b], .agg #[.int .i64 c, .int .i64 d]] w fun e w' => e = .returned (.tuple #[.agg #[.int .i64 ((divV a b c d).1), .int .i64 ((divV a b c d).2.1)], .int .i64 ((divV a b c d).2.2)]) ∧ Below w.heap.size w w' := by
 have hC := cmpR_any a b c d i1 i2 i3 i4
 unfold RetI at hC
 have hX := divR_any a b c d i1 i2 i3 i4
 unfold Ret args2 at hX
 generalize divV a b c d = R at *
 generalize cmpN a b c d = C at *
 go_enter Tryz.func145, Tryz.ntmps145
 go_wp2_with fail
 refine (hC _).mono ?_
 rintro e w1 ⟨rfl, hb1⟩
 change Below (W3 a b c d w).heap.size (W3 a b c d w) w1 at hb1
 have hb := (W3_below a b c d w).then_ hb1
 have KA := (W3_a a b c d w).on hb1
 have KB := (W3_b a b c d w).on hb1
 have KR := (W3_r a b c d w).on hb1
 have hl : w.heap.size ≤ w.heap.size + 1 + 1 := by omega
 obtain ⟨a10, a11⟩ := KA.two
 obtain ⟨b10, b11⟩ := KB.two
 go_wp2_with fail
 refine (hX _).mono ?_
 rintro e w2 ⟨rfl, hb2⟩
 replace hb := hb.then_ hb2
 replace KA := KA.on hb2
 replace KB := KB.on hb2
 replace KR := KR.on hb2
 clear a10 a11 b10 b11
 obtain ⟨a10, a11⟩ := KA.two
 obtain ⟨b10, b11⟩ := KB.two
 have q0 := KR.free 0
 have q1 := KR.free 1
 obtain ⟨r0, r1⟩ := KR.two
 have Kz : Known _ _ _ #[.int .i64 (R.1), .int .i64 (R.2.1)] := (KR.put 0 (.int .i64 (R.1))).put 1 (.int .i64 (R.2.1))
 obtain ⟨z0, z1⟩ := Kz.two
 go_wp2_with fail
 exact bodyPost_ret (v := .tuple #[.agg #[.int .i64 (R.1), .int .i64 (R.2.1)], .int .i64 (R.2.2)]) (by simp [results, Tryz.results145, go_sem, z0, z1]) rfl ⟨rfl, (hb.setCell (p := ⟨w.heap.size + 1 + 1, 0, none⟩) hl _).setCell (p := ⟨w.heap.size + 1 + 1, 1, none⟩) hl _⟩
theorem two_mod (a b c d : Int) (w : World) (i1 : I64 a) (i2 : I64 b) (i3 : I64 c) (i4 : I64 d)  :
  Calls Tryz.prog 145 #[.string ⟨#[109, 111, 100]⟩, .agg #[.int .i64 a, .int .i64 b], .agg #[.int .i64 c, .int .i64 d]] w fun e w' => e = .returned (.tuple #[.agg #[.int .i64 ((modV a b c d).1), .int .i64 ((modV a b c d).2.1)], .int .i64 ((modV a b c d).2.2)]) ∧ Below w.heap.size w w' := by
 have hC := cmpR_any a b c d i1 i2 i3 i4
 unfold RetI at hC
 have hX := modR_any a b c d i1 i2 i3 i4
 unfold Ret args2 at hX
 generalize modV a b c d = R at *
 generalize cmpN a b c d = C at *
 go_enter Tryz.func145, Tryz.ntmps145
 go_wp2_with fail
 refine (hC _).mono ?_
 rintro e w1 ⟨rfl, hb1⟩
 change Below (W3 a b c d w).heap.size (W3 a b c d w) w1 at hb1
 have hb := (W3_below a b c d w).then_ hb1
 have KA := (W3_a a b c d w).on hb1
 have KB := (W3_b a b c d w).on hb1
 have KR := (W3_r a b c d w).on hb1
 have hl : w.heap.size ≤ w.heap.size + 1 + 1 := by omega
 obtain ⟨a10, a11⟩ := KA.two
 obtain ⟨b10, b11⟩ := KB.two
 go_wp2_with fail
 refine (hX _).mono ?_
 rintro e w2 ⟨rfl, hb2⟩
 replace hb := hb.then_ hb2
 replace KA := KA.on hb2
 replace KB := KB.on hb2
 replace KR := KR.on hb2
 clear a10 a11 b10 b11
 obtain ⟨a10, a11⟩ := KA.two
 obtain ⟨b10, b11⟩ := KB.two
 have q0 := KR.free 0
 have q1 := KR.free 1
 obtain ⟨r0, r1⟩ := KR.two
 have Kz : Known _ _ _ #[.int .i64 (R.1), .int .i64 (R.2.1)] := (KR.put 0 (.int .i64 (R.1))).put 1 (.int .i64 (R.2.1))
 obtain ⟨z0, z1⟩ := Kz.two
 go_wp2_with fail
 exact bodyPost_ret (v := .tuple #[.agg #[.int .i64 (R.1), .int .i64 (R.2.1)], .int .i64 (R.2.2)]) (by simp [results, Tryz.results145, go_sem, z0, z1]) rfl ⟨rfl, (hb.setCell (p := ⟨w.heap.size + 1 + 1, 0, none⟩) hl _).setCell (p := ⟨w.heap.size + 1 + 1, 1, none⟩) hl _⟩
theorem two_hat (a b c d : Int) (w : World) (i1 : I64 a) (i2 : I64 b) (i3 : I64 c) (i4 : I64 d) (v : Num.val a b = true) :
  Calls Tryz.prog 145 #[.string ⟨#[94]⟩, .agg #[.int .i64 a, .int .i64 b], .agg #[.int .i64 c, .int .i64 d]] w fun e w' => e = .returned (.tuple #[.agg #[.int .i64 ((raiseV a b c d).1), .int .i64 ((raiseV a b c d).2.1)], .int .i64 ((raiseV a b c d).2.2)]) ∧ Below w.heap.size w w' := by
 have hC := cmpR_any a b c d i1 i2 i3 i4
 unfold RetI at hC
 have hX := powRef_any a b c d v
 unfold Ret args2 at hX
 generalize raiseV a b c d = R at *
 generalize cmpN a b c d = C at *
 go_enter Tryz.func145, Tryz.ntmps145
 go_wp2_with fail
 refine (hC _).mono ?_
 rintro e w1 ⟨rfl, hb1⟩
 change Below (W3 a b c d w).heap.size (W3 a b c d w) w1 at hb1
 have hb := (W3_below a b c d w).then_ hb1
 have KA := (W3_a a b c d w).on hb1
 have KB := (W3_b a b c d w).on hb1
 have KR := (W3_r a b c d w).on hb1
 have hl : w.heap.size ≤ w.heap.size + 1 + 1 := by omega
 obtain ⟨a10, a11⟩ := KA.two
 obtain ⟨b10, b11⟩ := KB.two
 go_wp2_with fail
 refine (hX _).mono ?_
 rintro e w2 ⟨rfl, hb2⟩
 replace hb := hb.then_ hb2
 replace KA := KA.on hb2
 replace KB := KB.on hb2
 replace KR := KR.on hb2
 clear a10 a11 b10 b11
 obtain ⟨a10, a11⟩ := KA.two
 obtain ⟨b10, b11⟩ := KB.two
 have q0 := KR.free 0
 have q1 := KR.free 1
 obtain ⟨r0, r1⟩ := KR.two
 have Kz : Known _ _ _ #[.int .i64 (R.1), .int .i64 (R.2.1)] := (KR.put 0 (.int .i64 (R.1))).put 1 (.int .i64 (R.2.1))
 obtain ⟨z0, z1⟩ := Kz.two
 go_wp2_with fail
 exact bodyPost_ret (v := .tuple #[.agg #[.int .i64 (R.1), .int .i64 (R.2.1)], .int .i64 (R.2.2)]) (by simp [results, Tryz.results145, go_sem, z0, z1]) rfl ⟨rfl, (hb.setCell (p := ⟨w.heap.size + 1 + 1, 0, none⟩) hl _).setCell (p := ⟨w.heap.size + 1 + 1, 1, none⟩) hl _⟩
theorem two_round (a b c d : Int) (w : World) (i1 : I64 a) (i2 : I64 b) (i3 : I64 c) (i4 : I64 d) (h : wholeB c d 0 9 = true) :
  Calls Tryz.prog 145 #[.string ⟨#[114, 111, 117, 110, 100]⟩, .agg #[.int .i64 a, .int .i64 b], .agg #[.int .i64 c, .int .i64 d]] w fun e w' => e = .returned (.tuple #[.agg #[.int .i64 ((roundV a b c).1), .int .i64 ((roundV a b c).2.1)], .int .i64 ((roundV a b c).2.2)]) ∧ Below w.heap.size w w' := by
 have hC := cmpR_any a b c d i1 i2 i3 i4
 unfold RetI at hC
 obtain ⟨g1, g2, g3⟩ := whole_facts h
 clear h
 have hX := roundR_any a b c i1 i2
 unfold Ret at hX
 generalize roundV a b c = R at *
 generalize cmpN a b c d = C at *
 go_enter Tryz.func145, Tryz.ntmps145
 go_wp2_with fail
 refine (hC _).mono ?_
 rintro e w1 ⟨rfl, hb1⟩
 change Below (W3 a b c d w).heap.size (W3 a b c d w) w1 at hb1
 have hb := (W3_below a b c d w).then_ hb1
 have KA := (W3_a a b c d w).on hb1
 have KB := (W3_b a b c d w).on hb1
 have KR := (W3_r a b c d w).on hb1
 have hl : w.heap.size ≤ w.heap.size + 1 + 1 := by omega
 obtain ⟨a10, a11⟩ := KA.two
 obtain ⟨b10, b11⟩ := KB.two
 go_wp2_with fail
 refine (hX _).mono ?_
 rintro e w3 ⟨rfl, hb3⟩
 replace hb := hb.then_ hb3
 replace KA := KA.on hb3
 replace KB := KB.on hb3
 replace KR := KR.on hb3
 clear a10 a11 b10 b11
 obtain ⟨a10, a11⟩ := KA.two
 obtain ⟨b10, b11⟩ := KB.two
 have q0 := KR.free 0
 have q1 := KR.free 1
 obtain ⟨r0, r1⟩ := KR.two
 have Kz : Known _ _ _ #[.int .i64 (R.1), .int .i64 (R.2.1)] := (KR.put 0 (.int .i64 (R.1))).put 1 (.int .i64 (R.2.1))
 obtain ⟨z0, z1⟩ := Kz.two
 go_wp2_with fail
 exact bodyPost_ret (v := .tuple #[.agg #[.int .i64 (R.1), .int .i64 (R.2.1)], .int .i64 (R.2.2)]) (by simp [results, Tryz.results145, go_sem, z0, z1]) rfl ⟨rfl, (hb.setCell (p := ⟨w.heap.size + 1 + 1, 0, none⟩) hl _).setCell (p := ⟨w.heap.size + 1 + 1, 1, none⟩) hl _⟩
theorem two_round_no (a b c d : Int) (w : World) (i1 : I64 a) (i2 : I64 b) (i3 : I64 c) (i4 : I64 d) (h : wholeB c d 0 9 = false) :
  Calls Tryz.prog 145 #[.string ⟨#[114, 111, 117, 110, 100]⟩, .agg #[.int .i64 a, .int .i64 b], .agg #[.int .i64 c, .int .i64 d]] w fun e w' => e = .returned (.tuple #[.agg #[.int .i64 (0), .int .i64 (0)], .int .i64 (2)]) ∧ Below w.heap.size w w' := by
 have hC := cmpR_any a b c d i1 i2 i3 i4
 unfold RetI at hC
 rcases whole_nofacts h with g1 | ⟨g1, g2⟩ | ⟨g1, g2, g3⟩
 all_goals
  clear h
  generalize cmpN a b c d = C at *
  go_enter Tryz.func145, Tryz.ntmps145
  go_wp2_with fail
  refine (hC _).mono ?_
  rintro e w1 ⟨rfl, hb1⟩
  change Below (W3 a b c d w).heap.size (W3 a b c d w) w1 at hb1
  have hb := (W3_below a b c d w).then_ hb1
  have KA := (W3_a a b c d w).on hb1
  have KB := (W3_b a b c d w).on hb1
  have KR := (W3_r a b c d w).on hb1
  have hl : w.heap.size ≤ w.heap.size + 1 + 1 := by omega
  obtain ⟨a10, a11⟩ := KA.two
  obtain ⟨b10, b11⟩ := KB.two
  have q0 := KR.free 0
  have q1 := KR.free 1
  obtain ⟨r0, r1⟩ := KR.two
  have Kz : Known _ _ _ #[.int .i64 (0), .int .i64 (0)] := (KR.put 0 (.int .i64 (0))).put 1 (.int .i64 (0))
  obtain ⟨z0, z1⟩ := Kz.two
  go_wp2_with fail
  exact bodyPost_ret (v := .tuple #[.agg #[.int .i64 (0), .int .i64 (0)], .int .i64 (2)]) (by simp [results, Tryz.results145, go_sem, z0, z1]) rfl ⟨rfl, (hb.setCell (p := ⟨w.heap.size + 1 + 1, 0, none⟩) hl _).setCell (p := ⟨w.heap.size + 1 + 1, 1, none⟩) hl _⟩
theorem two_eq_true (a b c d : Int) (w : World) (i1 : I64 a) (i2 : I64 b) (i3 : I64 c) (i4 : I64 d) (g : (cmpN a b c d == 0) = true) :
  Calls Tryz.prog 145 #[.string ⟨#[61]⟩, .agg #[.int .i64 a, .int .i64 b], .agg #[.int .i64 c, .int .i64 d]] w fun e w' => e = .returned (.tuple #[.agg #[.int .i64 (1), .int .i64 (1)], .int .i64 (0)]) ∧ Below w.heap.size w w' := by
 have hC := cmpR_any a b c d i1 i2 i3 i4
 unfold RetI at hC
 generalize cmpN a b c d = C at *
 have hT := truR_true
 go_enter Tryz.func145, Tryz.ntmps145
 go_wp2_with fail
 refine (hC _).mono ?_
 rintro e w1 ⟨rfl, hb1⟩
 change Below (W3 a b c d w).heap.size (W3 a b c d w) w1 at hb1
 have hb := (W3_below a b c d w).then_ hb1
 have KA := (W3_a a b c d w).on hb1
 have KB := (W3_b a b c d w).on hb1
 have KR := (W3_r a b c d w).on hb1
 have hl : w.heap.size ≤ w.heap.size + 1 + 1 := by omega
 obtain ⟨a10, a11⟩ := KA.two
 obtain ⟨b10, b11⟩ := KB.two
 go_wp2_with fail
 refine (hT _).mono ?_
 rintro e w2 ⟨rfl, hb2⟩
 replace hb := hb.then_ hb2
 replace KA := KA.on hb2
 replace KB := KB.on hb2
 replace KR := KR.on hb2
 clear a10 a11 b10 b11
 obtain ⟨a10, a11⟩ := KA.two
 obtain ⟨b10, b11⟩ := KB.two
 have q0 := KR.free 0
 have q1 := KR.free 1
 obtain ⟨r0, r1⟩ := KR.two
 have Kz : Known _ _ _ #[.int .i64 (1), .int .i64 (1)] := (KR.put 0 (.int .i64 (1))).put 1 (.int .i64 (1))
 obtain ⟨z0, z1⟩ := Kz.two
 go_wp2_with fail
 exact bodyPost_ret (v := .tuple #[.agg #[.int .i64 (1), .int .i64 (1)], .int .i64 (0)]) (by simp [results, Tryz.results145, go_sem, z0, z1]) rfl ⟨rfl, (hb.setCell (p := ⟨w.heap.size + 1 + 1, 0, none⟩) hl _).setCell (p := ⟨w.heap.size + 1 + 1, 1, none⟩) hl _⟩
theorem two_eq_false (a b c d : Int) (w : World) (i1 : I64 a) (i2 : I64 b) (i3 : I64 c) (i4 : I64 d) (g : (cmpN a b c d == 0) = false) :
  Calls Tryz.prog 145 #[.string ⟨#[61]⟩, .agg #[.int .i64 a, .int .i64 b], .agg #[.int .i64 c, .int .i64 d]] w fun e w' => e = .returned (.tuple #[.agg #[.int .i64 (0), .int .i64 (1)], .int .i64 (0)]) ∧ Below w.heap.size w w' := by
 have hC := cmpR_any a b c d i1 i2 i3 i4
 unfold RetI at hC
 generalize cmpN a b c d = C at *
 have hT := truR_false
 go_enter Tryz.func145, Tryz.ntmps145
 go_wp2_with fail
 refine (hC _).mono ?_
 rintro e w1 ⟨rfl, hb1⟩
 change Below (W3 a b c d w).heap.size (W3 a b c d w) w1 at hb1
 have hb := (W3_below a b c d w).then_ hb1
 have KA := (W3_a a b c d w).on hb1
 have KB := (W3_b a b c d w).on hb1
 have KR := (W3_r a b c d w).on hb1
 have hl : w.heap.size ≤ w.heap.size + 1 + 1 := by omega
 obtain ⟨a10, a11⟩ := KA.two
 obtain ⟨b10, b11⟩ := KB.two
 go_wp2_with fail
 refine (hT _).mono ?_
 rintro e w2 ⟨rfl, hb2⟩
 replace hb := hb.then_ hb2
 replace KA := KA.on hb2
 replace KB := KB.on hb2
 replace KR := KR.on hb2
 clear a10 a11 b10 b11
 obtain ⟨a10, a11⟩ := KA.two
 obtain ⟨b10, b11⟩ := KB.two
 have q0 := KR.free 0
 have q1 := KR.free 1
 obtain ⟨r0, r1⟩ := KR.two
 have Kz : Known _ _ _ #[.int .i64 (0), .int .i64 (1)] := (KR.put 0 (.int .i64 (0))).put 1 (.int .i64 (1))
 obtain ⟨z0, z1⟩ := Kz.two
 go_wp2_with fail
 exact bodyPost_ret (v := .tuple #[.agg #[.int .i64 (0), .int .i64 (1)], .int .i64 (0)]) (by simp [results, Tryz.results145, go_sem, z0, z1]) rfl ⟨rfl, (hb.setCell (p := ⟨w.heap.size + 1 + 1, 0, none⟩) hl _).setCell (p := ⟨w.heap.size + 1 + 1, 1, none⟩) hl _⟩
theorem two_ne_true (a b c d : Int) (w : World) (i1 : I64 a) (i2 : I64 b) (i3 : I64 c) (i4 : I64 d) (g : (cmpN a b c d != 0) = true) :
  Calls Tryz.prog 145 #[.string ⟨#[60, 62]⟩, .agg #[.int .i64 a, .int .i64 b], .agg #[.int .i64 c, .int .i64 d]] w fun e w' => e = .returned (.tuple #[.agg #[.int .i64 (1), .int .i64 (1)], .int .i64 (0)]) ∧ Below w.heap.size w w' := by
 have hC := cmpR_any a b c d i1 i2 i3 i4
 unfold RetI at hC
 generalize cmpN a b c d = C at *
 have hT := truR_true
 go_enter Tryz.func145, Tryz.ntmps145
 go_wp2_with fail
 refine (hC _).mono ?_
 rintro e w1 ⟨rfl, hb1⟩
 change Below (W3 a b c d w).heap.size (W3 a b c d w) w1 at hb1
 have hb := (W3_below a b c d w).then_ hb1
 have KA := (W3_a a b c d w).on hb1
 have KB := (W3_b a b c d w).on hb1
 have KR := (W3_r a b c d w).on hb1
 have hl : w.heap.size ≤ w.heap.size + 1 + 1 := by omega
 obtain ⟨a10, a11⟩ := KA.two
 obtain ⟨b10, b11⟩ := KB.two
 go_wp2_with fail
 refine (hT _).mono ?_
 rintro e w2 ⟨rfl, hb2⟩
 replace hb := hb.then_ hb2
 replace KA := KA.on hb2
 replace KB := KB.on hb2
 replace KR := KR.on hb2
 clear a10 a11 b10 b11
 obtain ⟨a10, a11⟩ := KA.two
 obtain ⟨b10, b11⟩ := KB.two
 have q0 := KR.free 0
 have q1 := KR.free 1
 obtain ⟨r0, r1⟩ := KR.two
 have Kz : Known _ _ _ #[.int .i64 (1), .int .i64 (1)] := (KR.put 0 (.int .i64 (1))).put 1 (.int .i64 (1))
 obtain ⟨z0, z1⟩ := Kz.two
 go_wp2_with fail
 exact bodyPost_ret (v := .tuple #[.agg #[.int .i64 (1), .int .i64 (1)], .int .i64 (0)]) (by simp [results, Tryz.results145, go_sem, z0, z1]) rfl ⟨rfl, (hb.setCell (p := ⟨w.heap.size + 1 + 1, 0, none⟩) hl _).setCell (p := ⟨w.heap.size + 1 + 1, 1, none⟩) hl _⟩
theorem two_ne_false (a b c d : Int) (w : World) (i1 : I64 a) (i2 : I64 b) (i3 : I64 c) (i4 : I64 d) (g : (cmpN a b c d != 0) = false) :
  Calls Tryz.prog 145 #[.string ⟨#[60, 62]⟩, .agg #[.int .i64 a, .int .i64 b], .agg #[.int .i64 c, .int .i64 d]] w fun e w' => e = .returned (.tuple #[.agg #[.int .i64 (0), .int .i64 (1)], .int .i64 (0)]) ∧ Below w.heap.size w w' := by
 have hC := cmpR_any a b c d i1 i2 i3 i4
 unfold RetI at hC
 generalize cmpN a b c d = C at *
 have hT := truR_false
 go_enter Tryz.func145, Tryz.ntmps145
 go_wp2_with fail
 refine (hC _).mono ?_
 rintro e w1 ⟨rfl, hb1⟩
 change Below (W3 a b c d w).heap.size (W3 a b c d w) w1 at hb1
 have hb := (W3_below a b c d w).then_ hb1
 have KA := (W3_a a b c d w).on hb1
 have KB := (W3_b a b c d w).on hb1
 have KR := (W3_r a b c d w).on hb1
 have hl : w.heap.size ≤ w.heap.size + 1 + 1 := by omega
 obtain ⟨a10, a11⟩ := KA.two
 obtain ⟨b10, b11⟩ := KB.two
 go_wp2_with fail
 refine (hT _).mono ?_
 rintro e w2 ⟨rfl, hb2⟩
 replace hb := hb.then_ hb2
 replace KA := KA.on hb2
 replace KB := KB.on hb2
 replace KR := KR.on hb2
 clear a10 a11 b10 b11
 obtain ⟨a10, a11⟩ := KA.two
 obtain ⟨b10, b11⟩ := KB.two
 have q0 := KR.free 0
 have q1 := KR.free 1
 obtain ⟨r0, r1⟩ := KR.two
 have Kz : Known _ _ _ #[.int .i64 (0), .int .i64 (1)] := (KR.put 0 (.int .i64 (0))).put 1 (.int .i64 (1))
 obtain ⟨z0, z1⟩ := Kz.two
 go_wp2_with fail
 exact bodyPost_ret (v := .tuple #[.agg #[.int .i64 (0), .int .i64 (1)], .int .i64 (0)]) (by simp [results, Tryz.results145, go_sem, z0, z1]) rfl ⟨rfl, (hb.setCell (p := ⟨w.heap.size + 1 + 1, 0, none⟩) hl _).setCell (p := ⟨w.heap.size + 1 + 1, 1, none⟩) hl _⟩
theorem two_lt_true (a b c d : Int) (w : World) (i1 : I64 a) (i2 : I64 b) (i3 : I64 c) (i4 : I64 d) (g : decide (cmpN a b c d < 0) = true) :
  Calls Tryz.prog 145 #[.string ⟨#[60]⟩, .agg #[.int .i64 a, .int .i64 b], .agg #[.int .i64 c, .int .i64 d]] w fun e w' => e = .returned (.tuple #[.agg #[.int .i64 (1), .int .i64 (1)], .int .i64 (0)]) ∧ Below w.heap.size w w' := by
 have hC := cmpR_any a b c d i1 i2 i3 i4
 unfold RetI at hC
 generalize cmpN a b c d = C at *
 have hT := truR_true
 go_enter Tryz.func145, Tryz.ntmps145
 go_wp2_with fail
 refine (hC _).mono ?_
 rintro e w1 ⟨rfl, hb1⟩
 change Below (W3 a b c d w).heap.size (W3 a b c d w) w1 at hb1
 have hb := (W3_below a b c d w).then_ hb1
 have KA := (W3_a a b c d w).on hb1
 have KB := (W3_b a b c d w).on hb1
 have KR := (W3_r a b c d w).on hb1
 have hl : w.heap.size ≤ w.heap.size + 1 + 1 := by omega
 obtain ⟨a10, a11⟩ := KA.two
 obtain ⟨b10, b11⟩ := KB.two
 go_wp2_with fail
 refine (hT _).mono ?_
 rintro e w2 ⟨rfl, hb2⟩
 replace hb := hb.then_ hb2
 replace KA := KA.on hb2
 replace KB := KB.on hb2
 replace KR := KR.on hb2
 clear a10 a11 b10 b11
 obtain ⟨a10, a11⟩ := KA.two
 obtain ⟨b10, b11⟩ := KB.two
 have q0 := KR.free 0
 have q1 := KR.free 1
 obtain ⟨r0, r1⟩ := KR.two
 have Kz : Known _ _ _ #[.int .i64 (1), .int .i64 (1)] := (KR.put 0 (.int .i64 (1))).put 1 (.int .i64 (1))
 obtain ⟨z0, z1⟩ := Kz.two
 go_wp2_with fail
 exact bodyPost_ret (v := .tuple #[.agg #[.int .i64 (1), .int .i64 (1)], .int .i64 (0)]) (by simp [results, Tryz.results145, go_sem, z0, z1]) rfl ⟨rfl, (hb.setCell (p := ⟨w.heap.size + 1 + 1, 0, none⟩) hl _).setCell (p := ⟨w.heap.size + 1 + 1, 1, none⟩) hl _⟩
theorem two_lt_false (a b c d : Int) (w : World) (i1 : I64 a) (i2 : I64 b) (i3 : I64 c) (i4 : I64 d) (g : decide (cmpN a b c d < 0) = false) :
  Calls Tryz.prog 145 #[.string ⟨#[60]⟩, .agg #[.int .i64 a, .int .i64 b], .agg #[.int .i64 c, .int .i64 d]] w fun e w' => e = .returned (.tuple #[.agg #[.int .i64 (0), .int .i64 (1)], .int .i64 (0)]) ∧ Below w.heap.size w w' := by
 have hC := cmpR_any a b c d i1 i2 i3 i4
 unfold RetI at hC
 generalize cmpN a b c d = C at *
 have hT := truR_false
 go_enter Tryz.func145, Tryz.ntmps145
 go_wp2_with fail
 refine (hC _).mono ?_
 rintro e w1 ⟨rfl, hb1⟩
 change Below (W3 a b c d w).heap.size (W3 a b c d w) w1 at hb1
 have hb := (W3_below a b c d w).then_ hb1
 have KA := (W3_a a b c d w).on hb1
 have KB := (W3_b a b c d w).on hb1
 have KR := (W3_r a b c d w).on hb1
 have hl : w.heap.size ≤ w.heap.size + 1 + 1 := by omega
 obtain ⟨a10, a11⟩ := KA.two
 obtain ⟨b10, b11⟩ := KB.two
 go_wp2_with fail
 refine (hT _).mono ?_
 rintro e w2 ⟨rfl, hb2⟩
 replace hb := hb.then_ hb2
 replace KA := KA.on hb2
 replace KB := KB.on hb2
 replace KR := KR.on hb2
 clear a10 a11 b10 b11
 obtain ⟨a10, a11⟩ := KA.two
 obtain ⟨b10, b11⟩ := KB.two
 have q0 := KR.free 0
 have q1 := KR.free 1
 obtain ⟨r0, r1⟩ := KR.two
 have Kz : Known _ _ _ #[.int .i64 (0), .int .i64 (1)] := (KR.put 0 (.int .i64 (0))).put 1 (.int .i64 (1))
 obtain ⟨z0, z1⟩ := Kz.two
 go_wp2_with fail
 exact bodyPost_ret (v := .tuple #[.agg #[.int .i64 (0), .int .i64 (1)], .int .i64 (0)]) (by simp [results, Tryz.results145, go_sem, z0, z1]) rfl ⟨rfl, (hb.setCell (p := ⟨w.heap.size + 1 + 1, 0, none⟩) hl _).setCell (p := ⟨w.heap.size + 1 + 1, 1, none⟩) hl _⟩
theorem two_gt_true (a b c d : Int) (w : World) (i1 : I64 a) (i2 : I64 b) (i3 : I64 c) (i4 : I64 d) (g : decide (0 < cmpN a b c d) = true) :
  Calls Tryz.prog 145 #[.string ⟨#[62]⟩, .agg #[.int .i64 a, .int .i64 b], .agg #[.int .i64 c, .int .i64 d]] w fun e w' => e = .returned (.tuple #[.agg #[.int .i64 (1), .int .i64 (1)], .int .i64 (0)]) ∧ Below w.heap.size w w' := by
 have hC := cmpR_any a b c d i1 i2 i3 i4
 unfold RetI at hC
 generalize cmpN a b c d = C at *
 have hT := truR_true
 go_enter Tryz.func145, Tryz.ntmps145
 go_wp2_with fail
 refine (hC _).mono ?_
 rintro e w1 ⟨rfl, hb1⟩
 change Below (W3 a b c d w).heap.size (W3 a b c d w) w1 at hb1
 have hb := (W3_below a b c d w).then_ hb1
 have KA := (W3_a a b c d w).on hb1
 have KB := (W3_b a b c d w).on hb1
 have KR := (W3_r a b c d w).on hb1
 have hl : w.heap.size ≤ w.heap.size + 1 + 1 := by omega
 obtain ⟨a10, a11⟩ := KA.two
 obtain ⟨b10, b11⟩ := KB.two
 go_wp2_with fail
 refine (hT _).mono ?_
 rintro e w2 ⟨rfl, hb2⟩
 replace hb := hb.then_ hb2
 replace KA := KA.on hb2
 replace KB := KB.on hb2
 replace KR := KR.on hb2
 clear a10 a11 b10 b11
 obtain ⟨a10, a11⟩ := KA.two
 obtain ⟨b10, b11⟩ := KB.two
 have q0 := KR.free 0
 have q1 := KR.free 1
 obtain ⟨r0, r1⟩ := KR.two
 have Kz : Known _ _ _ #[.int .i64 (1), .int .i64 (1)] := (KR.put 0 (.int .i64 (1))).put 1 (.int .i64 (1))
 obtain ⟨z0, z1⟩ := Kz.two
 go_wp2_with fail
 exact bodyPost_ret (v := .tuple #[.agg #[.int .i64 (1), .int .i64 (1)], .int .i64 (0)]) (by simp [results, Tryz.results145, go_sem, z0, z1]) rfl ⟨rfl, (hb.setCell (p := ⟨w.heap.size + 1 + 1, 0, none⟩) hl _).setCell (p := ⟨w.heap.size + 1 + 1, 1, none⟩) hl _⟩
theorem two_gt_false (a b c d : Int) (w : World) (i1 : I64 a) (i2 : I64 b) (i3 : I64 c) (i4 : I64 d) (g : decide (0 < cmpN a b c d) = false) :
  Calls Tryz.prog 145 #[.string ⟨#[62]⟩, .agg #[.int .i64 a, .int .i64 b], .agg #[.int .i64 c, .int .i64 d]] w fun e w' => e = .returned (.tuple #[.agg #[.int .i64 (0), .int .i64 (1)], .int .i64 (0)]) ∧ Below w.heap.size w w' := by
 have hC := cmpR_any a b c d i1 i2 i3 i4
 unfold RetI at hC
 generalize cmpN a b c d = C at *
 have hT := truR_false
 go_enter Tryz.func145, Tryz.ntmps145
 go_wp2_with fail
 refine (hC _).mono ?_
 rintro e w1 ⟨rfl, hb1⟩
 change Below (W3 a b c d w).heap.size (W3 a b c d w) w1 at hb1
 have hb := (W3_below a b c d w).then_ hb1
 have KA := (W3_a a b c d w).on hb1
 have KB := (W3_b a b c d w).on hb1
 have KR := (W3_r a b c d w).on hb1
 have hl : w.heap.size ≤ w.heap.size + 1 + 1 := by omega
 obtain ⟨a10, a11⟩ := KA.two
 obtain ⟨b10, b11⟩ := KB.two
 go_wp2_with fail
 refine (hT _).mono ?_
 rintro e w2 ⟨rfl, hb2⟩
 replace hb := hb.then_ hb2
 replace KA := KA.on hb2
 replace KB := KB.on hb2
 replace KR := KR.on hb2
 clear a10 a11 b10 b11
 obtain ⟨a10, a11⟩ := KA.two
 obtain ⟨b10, b11⟩ := KB.two
 have q0 := KR.free 0
 have q1 := KR.free 1
 obtain ⟨r0, r1⟩ := KR.two
 have Kz : Known _ _ _ #[.int .i64 (0), .int .i64 (1)] := (KR.put 0 (.int .i64 (0))).put 1 (.int .i64 (1))
 obtain ⟨z0, z1⟩ := Kz.two
 go_wp2_with fail
 exact bodyPost_ret (v := .tuple #[.agg #[.int .i64 (0), .int .i64 (1)], .int .i64 (0)]) (by simp [results, Tryz.results145, go_sem, z0, z1]) rfl ⟨rfl, (hb.setCell (p := ⟨w.heap.size + 1 + 1, 0, none⟩) hl _).setCell (p := ⟨w.heap.size + 1 + 1, 1, none⟩) hl _⟩
theorem two_le_true (a b c d : Int) (w : World) (i1 : I64 a) (i2 : I64 b) (i3 : I64 c) (i4 : I64 d) (g : decide (cmpN a b c d ≤ 0) = true) :
  Calls Tryz.prog 145 #[.string ⟨#[60, 61]⟩, .agg #[.int .i64 a, .int .i64 b], .agg #[.int .i64 c, .int .i64 d]] w fun e w' => e = .returned (.tuple #[.agg #[.int .i64 (1), .int .i64 (1)], .int .i64 (0)]) ∧ Below w.heap.size w w' := by
 have hC := cmpR_any a b c d i1 i2 i3 i4
 unfold RetI at hC
 generalize cmpN a b c d = C at *
 have hT := truR_true
 go_enter Tryz.func145, Tryz.ntmps145
 go_wp2_with fail
 refine (hC _).mono ?_
 rintro e w1 ⟨rfl, hb1⟩
 change Below (W3 a b c d w).heap.size (W3 a b c d w) w1 at hb1
 have hb := (W3_below a b c d w).then_ hb1
 have KA := (W3_a a b c d w).on hb1
 have KB := (W3_b a b c d w).on hb1
 have KR := (W3_r a b c d w).on hb1
 have hl : w.heap.size ≤ w.heap.size + 1 + 1 := by omega
 obtain ⟨a10, a11⟩ := KA.two
 obtain ⟨b10, b11⟩ := KB.two
 go_wp2_with fail
 refine (hT _).mono ?_
 rintro e w2 ⟨rfl, hb2⟩
 replace hb := hb.then_ hb2
 replace KA := KA.on hb2
 replace KB := KB.on hb2
 replace KR := KR.on hb2
 clear a10 a11 b10 b11
 obtain ⟨a10, a11⟩ := KA.two
 obtain ⟨b10, b11⟩ := KB.two
 have q0 := KR.free 0
 have q1 := KR.free 1
 obtain ⟨r0, r1⟩ := KR.two
 have Kz : Known _ _ _ #[.int .i64 (1), .int .i64 (1)] := (KR.put 0 (.int .i64 (1))).put 1 (.int .i64 (1))
 obtain ⟨z0, z1⟩ := Kz.two
 go_wp2_with fail
 exact bodyPost_ret (v := .tuple #[.agg #[.int .i64 (1), .int .i64 (1)], .int .i64 (0)]) (by simp [results, Tryz.results145, go_sem, z0, z1]) rfl ⟨rfl, (hb.setCell (p := ⟨w.heap.size + 1 + 1, 0, none⟩) hl _).setCell (p := ⟨w.heap.size + 1 + 1, 1, none⟩) hl _⟩
theorem two_le_false (a b c d : Int) (w : World) (i1 : I64 a) (i2 : I64 b) (i3 : I64 c) (i4 : I64 d) (g : decide (cmpN a b c d ≤ 0) = false) :
  Calls Tryz.prog 145 #[.string ⟨#[60, 61]⟩, .agg #[.int .i64 a, .int .i64 b], .agg #[.int .i64 c, .int .i64 d]] w fun e w' => e = .returned (.tuple #[.agg #[.int .i64 (0), .int .i64 (1)], .int .i64 (0)]) ∧ Below w.heap.size w w' := by
 have hC := cmpR_any a b c d i1 i2 i3 i4
 unfold RetI at hC
 generalize cmpN a b c d = C at *
 have hT := truR_false
 go_enter Tryz.func145, Tryz.ntmps145
 go_wp2_with fail
 refine (hC _).mono ?_
 rintro e w1 ⟨rfl, hb1⟩
 change Below (W3 a b c d w).heap.size (W3 a b c d w) w1 at hb1
 have hb := (W3_below a b c d w).then_ hb1
 have KA := (W3_a a b c d w).on hb1
 have KB := (W3_b a b c d w).on hb1
 have KR := (W3_r a b c d w).on hb1
 have hl : w.heap.size ≤ w.heap.size + 1 + 1 := by omega
 obtain ⟨a10, a11⟩ := KA.two
 obtain ⟨b10, b11⟩ := KB.two
 go_wp2_with fail
 refine (hT _).mono ?_
 rintro e w2 ⟨rfl, hb2⟩
 replace hb := hb.then_ hb2
 replace KA := KA.on hb2
 replace KB := KB.on hb2
 replace KR := KR.on hb2
 clear a10 a11 b10 b11
 obtain ⟨a10, a11⟩ := KA.two
 obtain ⟨b10, b11⟩ := KB.two
 have q0 := KR.free 0
 have q1 := KR.free 1
 obtain ⟨r0, r1⟩ := KR.two
 have Kz : Known _ _ _ #[.int .i64 (0), .int .i64 (1)] := (KR.put 0 (.int .i64 (0))).put 1 (.int .i64 (1))
 obtain ⟨z0, z1⟩ := Kz.two
 go_wp2_with fail
 exact bodyPost_ret (v := .tuple #[.agg #[.int .i64 (0), .int .i64 (1)], .int .i64 (0)]) (by simp [results, Tryz.results145, go_sem, z0, z1]) rfl ⟨rfl, (hb.setCell (p := ⟨w.heap.size + 1 + 1, 0, none⟩) hl _).setCell (p := ⟨w.heap.size + 1 + 1, 1, none⟩) hl _⟩
theorem two_ge_true (a b c d : Int) (w : World) (i1 : I64 a) (i2 : I64 b) (i3 : I64 c) (i4 : I64 d) (g : decide (0 ≤ cmpN a b c d) = true) :
  Calls Tryz.prog 145 #[.string ⟨#[62, 61]⟩, .agg #[.int .i64 a, .int .i64 b], .agg #[.int .i64 c, .int .i64 d]] w fun e w' => e = .returned (.tuple #[.agg #[.int .i64 (1), .int .i64 (1)], .int .i64 (0)]) ∧ Below w.heap.size w w' := by
 have hC := cmpR_any a b c d i1 i2 i3 i4
 unfold RetI at hC
 generalize cmpN a b c d = C at *
 have hT := truR_true
 go_enter Tryz.func145, Tryz.ntmps145
 go_wp2_with fail
 refine (hC _).mono ?_
 rintro e w1 ⟨rfl, hb1⟩
 change Below (W3 a b c d w).heap.size (W3 a b c d w) w1 at hb1
 have hb := (W3_below a b c d w).then_ hb1
 have KA := (W3_a a b c d w).on hb1
 have KB := (W3_b a b c d w).on hb1
 have KR := (W3_r a b c d w).on hb1
 have hl : w.heap.size ≤ w.heap.size + 1 + 1 := by omega
 obtain ⟨a10, a11⟩ := KA.two
 obtain ⟨b10, b11⟩ := KB.two
 go_wp2_with fail
 refine (hT _).mono ?_
 rintro e w2 ⟨rfl, hb2⟩
 replace hb := hb.then_ hb2
 replace KA := KA.on hb2
 replace KB := KB.on hb2
 replace KR := KR.on hb2
 clear a10 a11 b10 b11
 obtain ⟨a10, a11⟩ := KA.two
 obtain ⟨b10, b11⟩ := KB.two
 have q0 := KR.free 0
 have q1 := KR.free 1
 obtain ⟨r0, r1⟩ := KR.two
 have Kz : Known _ _ _ #[.int .i64 (1), .int .i64 (1)] := (KR.put 0 (.int .i64 (1))).put 1 (.int .i64 (1))
 obtain ⟨z0, z1⟩ := Kz.two
 go_wp2_with fail
 exact bodyPost_ret (v := .tuple #[.agg #[.int .i64 (1), .int .i64 (1)], .int .i64 (0)]) (by simp [results, Tryz.results145, go_sem, z0, z1]) rfl ⟨rfl, (hb.setCell (p := ⟨w.heap.size + 1 + 1, 0, none⟩) hl _).setCell (p := ⟨w.heap.size + 1 + 1, 1, none⟩) hl _⟩
theorem two_ge_false (a b c d : Int) (w : World) (i1 : I64 a) (i2 : I64 b) (i3 : I64 c) (i4 : I64 d) (g : decide (0 ≤ cmpN a b c d) = false) :
  Calls Tryz.prog 145 #[.string ⟨#[62, 61]⟩, .agg #[.int .i64 a, .int .i64 b], .agg #[.int .i64 c, .int .i64 d]] w fun e w' => e = .returned (.tuple #[.agg #[.int .i64 (0), .int .i64 (1)], .int .i64 (0)]) ∧ Below w.heap.size w w' := by
 have hC := cmpR_any a b c d i1 i2 i3 i4
 unfold RetI at hC
 generalize cmpN a b c d = C at *
 have hT := truR_false
 go_enter Tryz.func145, Tryz.ntmps145
 go_wp2_with fail
 refine (hC _).mono ?_
 rintro e w1 ⟨rfl, hb1⟩
 change Below (W3 a b c d w).heap.size (W3 a b c d w) w1 at hb1
 have hb := (W3_below a b c d w).then_ hb1
 have KA := (W3_a a b c d w).on hb1
 have KB := (W3_b a b c d w).on hb1
 have KR := (W3_r a b c d w).on hb1
 have hl : w.heap.size ≤ w.heap.size + 1 + 1 := by omega
 obtain ⟨a10, a11⟩ := KA.two
 obtain ⟨b10, b11⟩ := KB.two
 go_wp2_with fail
 refine (hT _).mono ?_
 rintro e w2 ⟨rfl, hb2⟩
 replace hb := hb.then_ hb2
 replace KA := KA.on hb2
 replace KB := KB.on hb2
 replace KR := KR.on hb2
 clear a10 a11 b10 b11
 obtain ⟨a10, a11⟩ := KA.two
 obtain ⟨b10, b11⟩ := KB.two
 have q0 := KR.free 0
 have q1 := KR.free 1
 obtain ⟨r0, r1⟩ := KR.two
 have Kz : Known _ _ _ #[.int .i64 (0), .int .i64 (1)] := (KR.put 0 (.int .i64 (0))).put 1 (.int .i64 (1))
 obtain ⟨z0, z1⟩ := Kz.two
 go_wp2_with fail
 exact bodyPost_ret (v := .tuple #[.agg #[.int .i64 (0), .int .i64 (1)], .int .i64 (0)]) (by simp [results, Tryz.results145, go_sem, z0, z1]) rfl ⟨rfl, (hb.setCell (p := ⟨w.heap.size + 1 + 1, 0, none⟩) hl _).setCell (p := ⟨w.heap.size + 1 + 1, 1, none⟩) hl _⟩
theorem two_and_00 (a b c d : Int) (w : World) (i1 : I64 a) (i2 : I64 b) (i3 : I64 c) (i4 : I64 d) (ha : a = 0) :
  Calls Tryz.prog 145 #[.string ⟨#[97, 110, 100]⟩, .agg #[.int .i64 a, .int .i64 b], .agg #[.int .i64 c, .int .i64 d]] w fun e w' => e = .returned (.tuple #[.agg #[.int .i64 (0), .int .i64 (1)], .int .i64 (0)]) ∧ Below w.heap.size w w' := by
 have hC := cmpR_any a b c d i1 i2 i3 i4
 unfold RetI at hC
 have g1 : (a != 0) = false := by simpa using ha
 have g2 : (a == 0) = true := by simpa using ha
 generalize cmpN a b c d = C at *
 clear ha
 have hT := truR_false
 go_enter Tryz.func145, Tryz.ntmps145
 go_wp2_with fail
 refine (hC _).mono ?_
 rintro e w1 ⟨rfl, hb1⟩
 change Below (W3 a b c d w).heap.size (W3 a b c d w) w1 at hb1
 have hb := (W3_below a b c d w).then_ hb1
 have KA := (W3_a a b c d w).on hb1
 have KB := (W3_b a b c d w).on hb1
 have KR := (W3_r a b c d w).on hb1
 have hl : w.heap.size ≤ w.heap.size + 1 + 1 := by omega
 obtain ⟨a10, a11⟩ := KA.two
 obtain ⟨b10, b11⟩ := KB.two
 go_wp2_with fail
 refine (hT _).mono ?_
 rintro e w2 ⟨rfl, hb2⟩
 replace hb := hb.then_ hb2
 replace KA := KA.on hb2
 replace KB := KB.on hb2
 replace KR := KR.on hb2
 clear a10 a11 b10 b11
 obtain ⟨a10, a11⟩ := KA.two
 obtain ⟨b10, b11⟩ := KB.two
 have q0 := KR.free 0
 have q1 := KR.free 1
 obtain ⟨r0, r1⟩ := KR.two
 have Kz : Known _ _ _ #[.int .i64 (0), .int .i64 (1)] := (KR.put 0 (.int .i64 (0))).put 1 (.int .i64 (1))
 obtain ⟨z0, z1⟩ := Kz.two
 go_wp2_with fail
 exact bodyPost_ret (v := .tuple #[.agg #[.int .i64 (0), .int .i64 (1)], .int .i64 (0)]) (by simp [results, Tryz.results145, go_sem, z0, z1]) rfl ⟨rfl, (hb.setCell (p := ⟨w.heap.size + 1 + 1, 0, none⟩) hl _).setCell (p := ⟨w.heap.size + 1 + 1, 1, none⟩) hl _⟩
theorem two_and_10 (a b c d : Int) (w : World) (i1 : I64 a) (i2 : I64 b) (i3 : I64 c) (i4 : I64 d) (ha : ¬ a = 0) (hc : c = 0) :
  Calls Tryz.prog 145 #[.string ⟨#[97, 110, 100]⟩, .agg #[.int .i64 a, .int .i64 b], .agg #[.int .i64 c, .int .i64 d]] w fun e w' => e = .returned (.tuple #[.agg #[.int .i64 (0), .int .i64 (1)], .int .i64 (0)]) ∧ Below w.heap.size w w' := by
 have hC := cmpR_any a b c d i1 i2 i3 i4
 unfold RetI at hC
 have g1 : (a != 0) = true := by simpa using ha
 have g2 : (a == 0) = false := by simpa using ha
 have g3 : (c != 0) = false := by simpa using hc
 have g4 : (c == 0) = true := by simpa using hc
 generalize cmpN a b c d = C at *
 clear ha hc
 have hT := truR_false
 go_enter Tryz.func145, Tryz.ntmps145
 go_wp2_with fail
 refine (hC _).mono ?_
 rintro e w1 ⟨rfl, hb1⟩
 change Below (W3 a b c d w).heap.size (W3 a b c d w) w1 at hb1
 have hb := (W3_below a b c d w).then_ hb1
 have KA := (W3_a a b c d w).on hb1
 have KB := (W3_b a b c d w).on hb1
 have KR := (W3_r a b c d w).on hb1
 have hl : w.heap.size ≤ w.heap.size + 1 + 1 := by omega
 obtain ⟨a10, a11⟩ := KA.two
 obtain ⟨b10, b11⟩ := KB.two
 go_wp2_with fail
 refine (hT _).mono ?_
 rintro e w2 ⟨rfl, hb2⟩
 replace hb := hb.then_ hb2
 replace KA := KA.on hb2
 replace KB := KB.on hb2
 replace KR := KR.on hb2
 clear a10 a11 b10 b11
 obtain ⟨a10, a11⟩ := KA.two
 obtain ⟨b10, b11⟩ := KB.two
 have q0 := KR.free 0
 have q1 := KR.free 1
 obtain ⟨r0, r1⟩ := KR.two
 have Kz : Known _ _ _ #[.int .i64 (0), .int .i64 (1)] := (KR.put 0 (.int .i64 (0))).put 1 (.int .i64 (1))
 obtain ⟨z0, z1⟩ := Kz.two
 go_wp2_with fail
 exact bodyPost_ret (v := .tuple #[.agg #[.int .i64 (0), .int .i64 (1)], .int .i64 (0)]) (by simp [results, Tryz.results145, go_sem, z0, z1]) rfl ⟨rfl, (hb.setCell (p := ⟨w.heap.size + 1 + 1, 0, none⟩) hl _).setCell (p := ⟨w.heap.size + 1 + 1, 1, none⟩) hl _⟩
theorem two_and_11 (a b c d : Int) (w : World) (i1 : I64 a) (i2 : I64 b) (i3 : I64 c) (i4 : I64 d) (ha : ¬ a = 0) (hc : ¬ c = 0) :
  Calls Tryz.prog 145 #[.string ⟨#[97, 110, 100]⟩, .agg #[.int .i64 a, .int .i64 b], .agg #[.int .i64 c, .int .i64 d]] w fun e w' => e = .returned (.tuple #[.agg #[.int .i64 (1), .int .i64 (1)], .int .i64 (0)]) ∧ Below w.heap.size w w' := by
 have hC := cmpR_any a b c d i1 i2 i3 i4
 unfold RetI at hC
 have g1 : (a != 0) = true := by simpa using ha
 have g2 : (a == 0) = false := by simpa using ha
 have g3 : (c != 0) = true := by simpa using hc
 have g4 : (c == 0) = false := by simpa using hc
 generalize cmpN a b c d = C at *
 clear ha hc
 have hT := truR_true
 go_enter Tryz.func145, Tryz.ntmps145
 go_wp2_with fail
 refine (hC _).mono ?_
 rintro e w1 ⟨rfl, hb1⟩
 change Below (W3 a b c d w).heap.size (W3 a b c d w) w1 at hb1
 have hb := (W3_below a b c d w).then_ hb1
 have KA := (W3_a a b c d w).on hb1
 have KB := (W3_b a b c d w).on hb1
 have KR := (W3_r a b c d w).on hb1
 have hl : w.heap.size ≤ w.heap.size + 1 + 1 := by omega
 obtain ⟨a10, a11⟩ := KA.two
 obtain ⟨b10, b11⟩ := KB.two
 go_wp2_with fail
 refine (hT _).mono ?_
 rintro e w2 ⟨rfl, hb2⟩
 replace hb := hb.then_ hb2
 replace KA := KA.on hb2
 replace KB := KB.on hb2
 replace KR := KR.on hb2
 clear a10 a11 b10 b11
 obtain ⟨a10, a11⟩ := KA.two
 obtain ⟨b10, b11⟩ := KB.two
 have q0 := KR.free 0
 have q1 := KR.free 1
 obtain ⟨r0, r1⟩ := KR.two
 have Kz : Known _ _ _ #[.int .i64 (1), .int .i64 (1)] := (KR.put 0 (.int .i64 (1))).put 1 (.int .i64 (1))
 obtain ⟨z0, z1⟩ := Kz.two
 go_wp2_with fail
 exact bodyPost_ret (v := .tuple #[.agg #[.int .i64 (1), .int .i64 (1)], .int .i64 (0)]) (by simp [results, Tryz.results145, go_sem, z0, z1]) rfl ⟨rfl, (hb.setCell (p := ⟨w.heap.size + 1 + 1, 0, none⟩) hl _).setCell (p := ⟨w.heap.size + 1 + 1, 1, none⟩) hl _⟩
theorem two_or_00 (op : ByteArray) (a b c d : Int) (w : World) (i1 : I64 a) (i2 : I64 b) (i3 : I64 c) (i4 : I64 d) (h0 : (op.toList == [43]) = false) (h1 : (op.toList == [45]) = false) (h2 : (op.toList == [42]) = false) (h3 : (op.toList == [47]) = false) (h4 : (op.toList == [109, 111, 100]) = false) (h5 : (op.toList == [94]) = false) (h6 : (op.toList == [114, 111, 117, 110, 100]) = false) (h7 : (op.toList == [61]) = false) (h8 : (op.toList == [60, 62]) = false) (h9 : (op.toList == [60]) = false) (h10 : (op.toList == [62]) = false) (h11 : (op.toList == [60, 61]) = false) (h12 : (op.toList == [62, 61]) = false) (h13 : (op.toList == [97, 110, 100]) = false) (ha : a = 0) (hc : c = 0) :
  Calls Tryz.prog 145 #[.string op, .agg #[.int .i64 a, .int .i64 b], .agg #[.int .i64 c, .int .i64 d]] w fun e w' => e = .returned (.tuple #[.agg #[.int .i64 (0), .int .i64 (1)], .int .i64 (0)]) ∧ Below w.heap.size w w' := by
 have hC := cmpR_any a b c d i1 i2 i3 i4
 unfold RetI at hC
 have g1 : (a != 0) = false := by simpa using ha
 have g2 : (a == 0) = true := by simpa using ha
 have g3 : (c != 0) = false := by simpa using hc
 have g4 : (c == 0) = true := by simpa using hc
 generalize cmpN a b c d = C at *
 clear ha hc
 have hT := truR_false
 go_enter Tryz.func145, Tryz.ntmps145
 go_wp2_with fail
 refine (hC _).mono ?_
 rintro e w1 ⟨rfl, hb1⟩
 change Below (W3 a b c d w).heap.size (W3 a b c d w) w1 at hb1
 have hb := (W3_below a b c d w).then_ hb1
 have KA := (W3_a a b c d w).on hb1
 have KB := (W3_b a b c d w).on hb1
 have KR := (W3_r a b c d w).on hb1
 have hl : w.heap.size ≤ w.heap.size + 1 + 1 := by omega
 obtain ⟨a10, a11⟩ := KA.two
 obtain ⟨b10, b11⟩ := KB.two
 go_wp2_with fail
 refine (hT _).mono ?_
 rintro e w2 ⟨rfl, hb2⟩
 replace hb := hb.then_ hb2
 replace KA := KA.on hb2
 replace KB := KB.on hb2
 replace KR := KR.on hb2
 clear a10 a11 b10 b11
 obtain ⟨a10, a11⟩ := KA.two
 obtain ⟨b10, b11⟩ := KB.two
 have q0 := KR.free 0
 have q1 := KR.free 1
 obtain ⟨r0, r1⟩ := KR.two
 have Kz : Known _ _ _ #[.int .i64 (0), .int .i64 (1)] := (KR.put 0 (.int .i64 (0))).put 1 (.int .i64 (1))
 obtain ⟨z0, z1⟩ := Kz.two
 go_wp2_with fail
 exact bodyPost_ret (v := .tuple #[.agg #[.int .i64 (0), .int .i64 (1)], .int .i64 (0)]) (by simp [results, Tryz.results145, go_sem, z0, z1]) rfl ⟨rfl, (hb.setCell (p := ⟨w.heap.size + 1 + 1, 0, none⟩) hl _).setCell (p := ⟨w.heap.size + 1 + 1, 1, none⟩) hl _⟩
theorem two_or_01 (op : ByteArray) (a b c d : Int) (w : World) (i1 : I64 a) (i2 : I64 b) (i3 : I64 c) (i4 : I64 d) (h0 : (op.toList == [43]) = false) (h1 : (op.toList == [45]) = false) (h2 : (op.toList == [42]) = false) (h3 : (op.toList == [47]) = false) (h4 : (op.toList == [109, 111, 100]) = false) (h5 : (op.toList == [94]) = false) (h6 : (op.toList == [114, 111, 117, 110, 100]) = false) (h7 : (op.toList == [61]) = false) (h8 : (op.toList == [60, 62]) = false) (h9 : (op.toList == [60]) = false) (h10 : (op.toList == [62]) = false) (h11 : (op.toList == [60, 61]) = false) (h12 : (op.toList == [62, 61]) = false) (h13 : (op.toList == [97, 110, 100]) = false) (ha : a = 0) (hc : ¬ c = 0) :
  Calls Tryz.prog 145 #[.string op, .agg #[.int .i64 a, .int .i64 b], .agg #[.int .i64 c, .int .i64 d]] w fun e w' => e = .returned (.tuple #[.agg #[.int .i64 (1), .int .i64 (1)], .int .i64 (0)]) ∧ Below w.heap.size w w' := by
 have hC := cmpR_any a b c d i1 i2 i3 i4
 unfold RetI at hC
 have g1 : (a != 0) = false := by simpa using ha
 have g2 : (a == 0) = true := by simpa using ha
 have g3 : (c != 0) = true := by simpa using hc
 have g4 : (c == 0) = false := by simpa using hc
 generalize cmpN a b c d = C at *
 clear ha hc
 have hT := truR_true
 go_enter Tryz.func145, Tryz.ntmps145
 go_wp2_with fail
 refine (hC _).mono ?_
 rintro e w1 ⟨rfl, hb1⟩
 change Below (W3 a b c d w).heap.size (W3 a b c d w) w1 at hb1
 have hb := (W3_below a b c d w).then_ hb1
 have KA := (W3_a a b c d w).on hb1
 have KB := (W3_b a b c d w).on hb1
 have KR := (W3_r a b c d w).on hb1
 have hl : w.heap.size ≤ w.heap.size + 1 + 1 := by omega
 obtain ⟨a10, a11⟩ := KA.two
 obtain ⟨b10, b11⟩ := KB.two
 go_wp2_with fail
 refine (hT _).mono ?_
 rintro e w2 ⟨rfl, hb2⟩
 replace hb := hb.then_ hb2
 replace KA := KA.on hb2
 replace KB := KB.on hb2
 replace KR := KR.on hb2
 clear a10 a11 b10 b11
 obtain ⟨a10, a11⟩ := KA.two
 obtain ⟨b10, b11⟩ := KB.two
 have q0 := KR.free 0
 have q1 := KR.free 1
 obtain ⟨r0, r1⟩ := KR.two
 have Kz : Known _ _ _ #[.int .i64 (1), .int .i64 (1)] := (KR.put 0 (.int .i64 (1))).put 1 (.int .i64 (1))
 obtain ⟨z0, z1⟩ := Kz.two
 go_wp2_with fail
 exact bodyPost_ret (v := .tuple #[.agg #[.int .i64 (1), .int .i64 (1)], .int .i64 (0)]) (by simp [results, Tryz.results145, go_sem, z0, z1]) rfl ⟨rfl, (hb.setCell (p := ⟨w.heap.size + 1 + 1, 0, none⟩) hl _).setCell (p := ⟨w.heap.size + 1 + 1, 1, none⟩) hl _⟩
theorem two_or_11 (op : ByteArray) (a b c d : Int) (w : World) (i1 : I64 a) (i2 : I64 b) (i3 : I64 c) (i4 : I64 d) (h0 : (op.toList == [43]) = false) (h1 : (op.toList == [45]) = false) (h2 : (op.toList == [42]) = false) (h3 : (op.toList == [47]) = false) (h4 : (op.toList == [109, 111, 100]) = false) (h5 : (op.toList == [94]) = false) (h6 : (op.toList == [114, 111, 117, 110, 100]) = false) (h7 : (op.toList == [61]) = false) (h8 : (op.toList == [60, 62]) = false) (h9 : (op.toList == [60]) = false) (h10 : (op.toList == [62]) = false) (h11 : (op.toList == [60, 61]) = false) (h12 : (op.toList == [62, 61]) = false) (h13 : (op.toList == [97, 110, 100]) = false) (ha : ¬ a = 0) :
  Calls Tryz.prog 145 #[.string op, .agg #[.int .i64 a, .int .i64 b], .agg #[.int .i64 c, .int .i64 d]] w fun e w' => e = .returned (.tuple #[.agg #[.int .i64 (1), .int .i64 (1)], .int .i64 (0)]) ∧ Below w.heap.size w w' := by
 have hC := cmpR_any a b c d i1 i2 i3 i4
 unfold RetI at hC
 have g1 : (a != 0) = true := by simpa using ha
 have g2 : (a == 0) = false := by simpa using ha
 generalize cmpN a b c d = C at *
 clear ha
 have hT := truR_true
 go_enter Tryz.func145, Tryz.ntmps145
 go_wp2_with fail
 refine (hC _).mono ?_
 rintro e w1 ⟨rfl, hb1⟩
 change Below (W3 a b c d w).heap.size (W3 a b c d w) w1 at hb1
 have hb := (W3_below a b c d w).then_ hb1
 have KA := (W3_a a b c d w).on hb1
 have KB := (W3_b a b c d w).on hb1
 have KR := (W3_r a b c d w).on hb1
 have hl : w.heap.size ≤ w.heap.size + 1 + 1 := by omega
 obtain ⟨a10, a11⟩ := KA.two
 obtain ⟨b10, b11⟩ := KB.two
 go_wp2_with fail
 refine (hT _).mono ?_
 rintro e w2 ⟨rfl, hb2⟩
 replace hb := hb.then_ hb2
 replace KA := KA.on hb2
 replace KB := KB.on hb2
 replace KR := KR.on hb2
 clear a10 a11 b10 b11
 obtain ⟨a10, a11⟩ := KA.two
 obtain ⟨b10, b11⟩ := KB.two
 have q0 := KR.free 0
 have q1 := KR.free 1
 obtain ⟨r0, r1⟩ := KR.two
 have Kz : Known _ _ _ #[.int .i64 (1), .int .i64 (1)] := (KR.put 0 (.int .i64 (1))).put 1 (.int .i64 (1))
 obtain ⟨z0, z1⟩ := Kz.two
 go_wp2_with fail
 exact bodyPost_ret (v := .tuple #[.agg #[.int .i64 (1), .int .i64 (1)], .int .i64 (0)]) (by simp [results, Tryz.results145, go_sem, z0, z1]) rfl ⟨rfl, (hb.setCell (p := ⟨w.heap.size + 1 + 1, 0, none⟩) hl _).setCell (p := ⟨w.heap.size + 1 + 1, 1, none⟩) hl _⟩
theorem two8_any (op : ByteArray) (a b c d : Int) (v1 : Num.val a b = true) (v2 : Num.val c d = true) : Ret 145 #[.string op, .agg #[.int .i64 a, .int .i64 b], .agg #[.int .i64 c, .int .i64 d]] (applyV op a b c d) := by
 intro w
 obtain ⟨i1, i2⟩ := val_i64 v1
 obtain ⟨i3, i4⟩ := val_i64 v2
 unfold applyV
 by_cases h0 : op = ⟨#[43]⟩
 ·rw [if_pos h0]; subst h0
  exact two_plus a b c d w i1 i2 i3 i4
 rw [if_neg h0]
 by_cases h1 : op = ⟨#[45]⟩
 ·rw [if_pos h1]; subst h1
  exact two_minus a b c d w i1 i2 i3 i4
 rw [if_neg h1]
 by_cases h2 : op = ⟨#[42]⟩
 ·rw [if_pos h2]; subst h2
  exact two_times a b c d w i1 i2 i3 i4
 rw [if_neg h2]
 by_cases h3 : op = ⟨#[47]⟩
 ·rw [if_pos h3]; subst h3
  exact two_over a b c d w i1 i2 i3 i4
 rw [if_neg h3]
 by_cases h4 : op = ⟨#[109, 111, 100]⟩
 ·rw [if_pos h4]; subst h4
  exact two_mod a b c d w i1 i2 i3 i4
 rw [if_neg h4]
 by_cases h5 : op = ⟨#[94]⟩
 ·rw [if_pos h5]; subst h5
  exact two_hat a b c d w i1 i2 i3 i4 v1
 rw [if_neg h5]
 by_cases h6 : op = ⟨#[114, 111, 117, 110, 100]⟩
 ·rw [if_pos h6]; subst h6
  unfold roundsV
  cases h : wholeB c d 0 9
  ·exact two_round_no a b c d w i1 i2 i3 i4 h
  ·rw [if_pos rfl]; exact two_round a b c d w i1 i2 i3 i4 h
 rw [if_neg h6]
 by_cases h7 : op = ⟨#[61]⟩
 ·rw [if_pos h7]; subst h7
  cases g : (cmpN a b c d == 0)
  ·exact two_eq_false a b c d w i1 i2 i3 i4 g
  ·exact two_eq_true a b c d w i1 i2 i3 i4 g
 rw [if_neg h7]
 by_cases h8 : op = ⟨#[60, 62]⟩
 ·rw [if_pos h8]; subst h8
  cases g : (cmpN a b c d != 0)
  ·exact two_ne_false a b c d w i1 i2 i3 i4 g
  ·exact two_ne_true a b c d w i1 i2 i3 i4 g
 rw [if_neg h8]
 by_cases h9 : op = ⟨#[60]⟩
 ·rw [if_pos h9]; subst h9
  cases g : decide (cmpN a b c d < 0)
  ·exact two_lt_false a b c d w i1 i2 i3 i4 g
  ·exact two_lt_true a b c d w i1 i2 i3 i4 g
 rw [if_neg h9]
 by_cases h10 : op = ⟨#[62]⟩
 ·rw [if_pos h10]; subst h10
  cases g : decide (0 < cmpN a b c d)
  ·exact two_gt_false a b c d w i1 i2 i3 i4 g
  ·exact two_gt_true a b c d w i1 i2 i3 i4 g
 rw [if_neg h10]
 by_cases h11 : op = ⟨#[60, 61]⟩
 ·rw [if_pos h11]; subst h11
  cases g : decide (cmpN a b c d ≤ 0)
  ·exact two_le_false a b c d w i1 i2 i3 i4 g
  ·exact two_le_true a b c d w i1 i2 i3 i4 g
 rw [if_neg h11]
 by_cases h12 : op = ⟨#[62, 61]⟩
 ·rw [if_pos h12]; subst h12
  cases g : decide (0 ≤ cmpN a b c d)
  ·exact two_ge_false a b c d w i1 i2 i3 i4 g
  ·exact two_ge_true a b c d w i1 i2 i3 i4 g
 rw [if_neg h12]
 by_cases h13 : op = ⟨#[97, 110, 100]⟩
 ·rw [if_pos h13]; subst h13
  by_cases ha : a = 0
  ·subst ha; exact two_and_00 0 b c d w i1 i2 i3 i4 rfl
  ·by_cases hc : c = 0
   ·subst hc
    have g : (a != 0 && (0 : Int) != 0) = false := by simp
    rw [g]; exact two_and_10 a b 0 d w i1 i2 i3 i4 ha rfl
   ·have g : (a != 0 && c != 0) = true := by simp [ha, hc]
    rw [g]; exact two_and_11 a b c d w i1 i2 i3 i4 ha hc
 rw [if_neg h13]
 by_cases ha : a = 0
 ·by_cases hc : c = 0
  ·have g : (a != 0 || c != 0) = false := by simp [ha, hc]
   rw [g]; exact two_or_00 op a b c d w i1 i2 i3 i4 (str_nel h0) (str_nel h1) (str_nel h2) (str_nel h3) (str_nel h4) (str_nel h5) (str_nel h6) (str_nel h7) (str_nel h8) (str_nel h9) (str_nel h10) (str_nel h11) (str_nel h12) (str_nel h13) ha hc
  ·have g : (a != 0 || c != 0) = true := by simp [hc]
   rw [g]; exact two_or_01 op a b c d w i1 i2 i3 i4 (str_nel h0) (str_nel h1) (str_nel h2) (str_nel h3) (str_nel h4) (str_nel h5) (str_nel h6) (str_nel h7) (str_nel h8) (str_nel h9) (str_nel h10) (str_nel h11) (str_nel h12) (str_nel h13) ha hc
 ·have g : (a != 0 || c != 0) = true := by simp [ha]
  rw [g]; exact two_or_11 op a b c d w i1 i2 i3 i4 (str_nel h0) (str_nel h1) (str_nel h2) (str_nel h3) (str_nel h4) (str_nel h5) (str_nel h6) (str_nel h7) (str_nel h8) (str_nel h9) (str_nel h10) (str_nel h11) (str_nel h12) (str_nel h13) ha
end Go.Proofs.YtcklofamaooegaaGreatDoor
