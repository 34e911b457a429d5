/-
  The claim's own texts, packed. Conditions: those typed in each theorem.
-/
import Derived.Test.YtcklofamaooegaaGreatDoorZHabs
import Derived.Test.YtcklofamaooegaaGreatDoorZHabr
import Derived.Test.YtcklofamaooegaaGreatDoorZHaae
import Derived.Test.YtcklofamaooegaaGreatDoorZHabp
import Derived.Test.YtcklofamaooegaaGreatDoorRows
import Derived.SliceStrings
import Derived.ChangeArms
import Derived.ProofKit
set_option maxHeartbeats 4000000
set_option maxRecDepth 10000
set_option linter.unusedVariables false
namespace Go.Proofs.YtcklofamaooegaaGreatDoor
open Go.RowKit
attribute [local go_sem ↓] Go.wp_at_zero Go.wp_at_succ
def CallQ (N : ByteArray) (l : List ByteArray) (S : ByteArray) (z : Int) : Prop := ∀ (w : World) (p : Option Addr) (c : Nat), SL w p c l →
 Calls Tryz.prog 12 #[.string N, .slice p l.length c] w fun E w' => E = .returned (.tuple #[.string S, .int .i64 z]) ∧ Below w.heap.size w w'
inductive RQ (l : List ByteArray) : ByteArray → ByteArray → Int → Prop where
 | len : RQ l ⟨#[108, 101, 110]⟩ (⟨(Lib.itoa (nR (argV l 0) : Nat)).toArray⟩) 0
 | occurs : RQ l ⟨#[111, 99, 99, 117, 114, 115]⟩ (⟨(Lib.itoa ((occS (argV l 0) (rawV l 1)).length : Nat)).toArray⟩) 0
 | lc : RQ l ⟨#[108, 99]⟩ (casS false (argV l 0)) 0
 | uc : RQ l ⟨#[117, 99]⟩ (casS true (argV l 0)) 0
 | lcfirst : RQ l ⟨#[108, 99, 102, 105, 114, 115, 116]⟩ (fstS false (argV l 0)) 0
 | ucfirst : RQ l ⟨#[117, 99, 102, 105, 114, 115, 116]⟩ (fstS true (argV l 0)) 0
 | trim : RQ l ⟨#[116, 114, 105, 109]⟩ (argV l 0) 0
 | formula0 (hf : (argV l 0).size = 0) : RQ l ⟨#[102, 111, 114, 109, 117, 108, 97]⟩ ⟨#[]⟩ 0
 | formula (x d y : Int) (X : ByteArray) (hs : 0 < (argV l 0).size) (hE0 : Ret 40 #[.string (argV l 0)] (x, d, y))
   (hF : ∀ w, Calls Tryz.prog 41 #[.agg #[.int .i64 x, .int .i64 d]] w fun e w' => e = .returned (.string X) ∧ Below w.heap.size w w') : RQ l ⟨#[102, 111, 114, 109, 117, 108, 97]⟩ X y
 | dateformat (m y k1 : Int) (X : ByteArray)
   (hP : ∀ w, Calls Tryz.prog 42 #[.string (argV l 1)] w fun e w' => e = .returned (.tuple #[.int .i64 m, .int .i64 y]) ∧ Below w.heap.size w w')
   (hF : ∀ w, Calls Tryz.prog 43 #[.string (argV l 0), .int .i64 m] w fun e w' => e = .returned (.tuple #[.string X, .int .i64 k1]) ∧ Below w.heap.size w w') (hX : k1 ≠ 0 → X = ⟨#[]⟩) : RQ l ⟨#[100, 97, 116, 101, 102, 111, 114, 109, 97, 116]⟩ (outS X (fstE y k1)) (fstE y k1)
 | dateadd (X : ByteArray) (y : Int) (hD0 : DatQ l X y) : RQ l ⟨#[100, 97, 116, 101, 97, 100, 100]⟩ X y
 | sub (X : ByteArray) (y : Int) (hD0 : CntQ ⟨#[115, 117, 98]⟩ l X y) : RQ l ⟨#[115, 117, 98]⟩ X y
 | pos (X : ByteArray) (y : Int) (hD0 : CntQ ⟨#[112, 111, 115]⟩ l X y) : RQ l ⟨#[112, 111, 115]⟩ X y
 | replace (X : ByteArray) (y : Int) (hD0 : CntQ ⟨#[114, 101, 112, 108, 97, 99, 101]⟩ l X y) : RQ l ⟨#[114, 101, 112, 108, 97, 99, 101]⟩ X y
 | part (X : ByteArray) (y : Int) (hD0 : CntQ ⟨#[112, 97, 114, 116]⟩ l X y) : RQ l ⟨#[112, 97, 114, 116]⟩ X y
 | fixed (X : ByteArray) (y : Int) (hD0 : CntQ ⟨#[102, 105, 120, 101, 100]⟩ l X y) : RQ l ⟨#[102, 105, 120, 101, 100]⟩ X y
 | padleft (X : ByteArray) (y : Int) (hD0 : CntQ ⟨#[112, 97, 100, 108, 101, 102, 116]⟩ l X y) : RQ l ⟨#[112, 97, 100, 108, 101, 102, 116]⟩ X y
 | padright (X : ByteArray) (y : Int) (hD0 : CntQ ⟨#[112, 97, 100, 114, 105, 103, 104, 116]⟩ l X y) : RQ l ⟨#[112, 97, 100, 114, 105, 103, 104, 116]⟩ X y
set_option maxHeartbeats 10000000 in
theorem rcall_any (l : List ByteArray) (hl : Sml l) (hl40 : l.length ≤ 40) {N S : ByteArray} {z : Int} (hR : RQ l N S z) : CallQ N l S z := by
 intro w p c hS
 have hcap := hS.1
 have hcap2 := hS.2.1
 have hK := rknown_any N w
 rw [show decide (0 ≤ idxN N nms 0) = true by cases hR <;> decide +kernel] at hK
 have hA0 := fun W (h : Sq w W p c l) => rarg_any 0 (by omega) h.1 hl
 have hA1 := fun W (h : Sq w W p c l) => rarg_any 1 (by omega) h.1 hl
 have hR1 := fun W (h : Sq w W p c l) => rraw_any 1 (by omega) h.1 hl
 have hDt := fun W (h : Sq w W p c l) (X : ByteArray) (y : Int) (hD : DatQ l X y) => hD W p c h.1
 have hCn := fun W (h : Sq w W p c l) (M X : ByteArray) (y : Int) (hD : CntQ M l X y) => hD W p c h.1
 have h0 : Sq w w p c l := ⟨hS, Below.refl _ _⟩
 have hsz := hl.2
 have hs0 := argV_sz hl 0
 have hs1 := rawV_sz hl 1
 obtain ⟨n, hn⟩ : ∃ n, n = l.length := ⟨_, rfl⟩
 rw [← hn] at hcap hl40 hA0 hA1 hR1 hDt hCn ⊢
 have HN := Lib.hid hn
 have HSZ := Lib.hid hsz
 have HA0 := Lib.hid hA0
 have HA1 := Lib.hid hA1
 have HR1 := Lib.hid hR1
 have HDT := Lib.hid hDt
 have HCN := Lib.hid hCn
 have HRQ := Lib.hid hR
 clear hS hl hn hsz hA0 hA1 hR1 hDt hCn hR
 go_enter Tryz.func12, Tryz.ntmps12
 go_wp2_with fail
 refine hK.mono ?_
 rintro E w1 ⟨rfl, hb1⟩
 have h1 := h0.on hb1
 have H1 := Lib.hid h1
 clear hb1 hK h0 h1
 have g40 : decide (40 < n) = false := decide_eq_false (by omega)
 go_wp2_with fail
 go_loopg [6] (n + 1) (fun g s6 wr => ∃ k : Nat, s6 = .int .i64 k ∧ k ≤ n ∧ n < k + g ∧ w1 = wr)
 case atStart => exact ⟨0, rfl, by omega, by omega, rfl⟩
 case round =>
  obtain ⟨k, rfl, hk, hg, rfl⟩ := hrel
  by_cases h1 : k < n
  ·have g1 : decide (k < n) = true := decide_eq_true h1
   obtain ⟨b0, o, rfl, hbl, hcc⟩ := H1.out.1.all (by rw [← HN.out]; omega)
   obtain ⟨x, hx⟩ : ∃ x, l[k]? = some x := ⟨_, List.getElem?_eq_getElem (by rw [← HN.out]; exact h1)⟩
   have d0 := hcc k x hx
   have hxs := HSZ.out x (List.mem_of_getElem? hx)
   have g2 : decide (32768 < x.size) = false := decide_eq_false (by omega)
   clear hcc hx
   go_wp2_with fail
   go_roundg (n - k)
   case measure => omega
   case rel => exact ⟨k + 1, by go_num, by omega, by omega, rfl⟩
  ·have g1 : decide (k < n) = false := decide_eq_false h1
   have h1 := H1.out
   have hRQ := HRQ.out
   clear g40 HRQ
   go_wp2_with fail
   refine (HA0.out _ h1).mono ?_
   rintro E w2 ⟨rfl, hb2⟩
   have h2 := h1.on hb2
   clear hb2 h1
   cases hRQ with
   | len =>
     have hnr := nR_le (argV l 0)
     have hL := fun W => rlength_any (argV l 0) W (by omega)
     have hD := fun W => decimal_any (nR (argV l 0)) W (by omega) (by omega)
     go_wp2_with fail
     refine (hL _).mono ?_
     rintro E w3 ⟨rfl, hb3⟩
     have h3 := h2.on hb3
     clear hb3
     go_wp2_with fail
     refine (hD _).mono ?_
     rintro E w4 ⟨rfl, hb4⟩
     have h4 := h3.on hb4
     clear hb4
     go_wp2_with fail
     go_ret2
     exact ⟨rfl, h4.2⟩
   | occurs =>
     have hnr := occS_len (argV l 0) (rawV l 1)
     have hL := fun W => rcount_any (argV l 0) (rawV l 1) W (by omega) (by omega)
     have hD := fun W => decimal_any ((occS (argV l 0) (rawV l 1)).length : Nat) W (by omega) (by omega)
     go_wp2_with fail
     refine (HR1.out _ h2).mono ?_
     rintro E w3 ⟨rfl, rfl⟩
     go_wp2_with fail
     refine (hL _).mono ?_
     rintro E w4 ⟨rfl, hb4⟩
     have h4 := h2.on hb4
     clear hb4
     go_wp2_with fail
     refine (hD _).mono ?_
     rintro E w5 ⟨rfl, hb5⟩
     have h5 := h4.on hb5
     clear hb5
     go_wp2_with fail
     go_ret2
     exact ⟨rfl, h5.2⟩
   | lc =>
     go_wp2_with fail
     refine (rlower_any (argV l 0) _ (by omega)).mono ?_
     rintro E w3 ⟨rfl, hb3⟩
     have h3 := h2.on hb3
     clear hb3
     go_wp2_with fail
     go_ret2
     exact ⟨rfl, h3.2⟩
   | uc =>
     go_wp2_with fail
     refine (rupper_any (argV l 0) _ (by omega)).mono ?_
     rintro E w3 ⟨rfl, hb3⟩
     have h3 := h2.on hb3
     clear hb3
     go_wp2_with fail
     go_ret2
     exact ⟨rfl, h3.2⟩
   | lcfirst =>
     go_wp2_with fail
     refine (rfirst_any (argV l 0) false _ (by omega)).mono ?_
     rintro E w3 ⟨rfl, hb3⟩
     have h3 := h2.on hb3
     clear hb3
     go_wp2_with fail
     go_ret2
     exact ⟨rfl, h3.2⟩
   | ucfirst =>
     go_wp2_with fail
     refine (rfirst_any (argV l 0) true _ (by omega)).mono ?_
     rintro E w3 ⟨rfl, hb3⟩
     have h3 := h2.on hb3
     clear hb3
     go_wp2_with fail
     go_ret2
     exact ⟨rfl, h3.2⟩
   | trim =>
     go_wp2_with fail
     go_ret2
     exact ⟨rfl, h2.2⟩
   | formula0 hf =>
     rw [arg_empty hf]
     go_wp2_with fail
     go_ret2
     exact ⟨rfl, h2.2⟩
   | formula x d y X hs hE0 hF =>
     have hse : (argV l 0).toList.isEmpty = false := isEmpty_cons (first_cons _ hs)
     unfold Ret at hE0
     simp only at hE0
     have HE := Lib.hid hE0
     have HF := Lib.hid hF
     clear hE0 hF
     go_wp2_with fail
     refine (HE.out _).mono ?_
     rintro E w3 ⟨rfl, hb3⟩
     have h3 := h2.on hb3
     clear hb3
     have KN := Known.made w3 50 #[.int .i64 x, .int .i64 d]
     obtain ⟨q0, q1⟩ := KN.two
     have hlq := KN.lt
     have hk := h3.on (below_new0 w3 (.cells #[.int .i64 x, .int .i64 d] 50))
     clear KN
     go_wp2_with fail
     refine (HF.out _).mono ?_
     rintro E w4 ⟨rfl, hb4⟩
     have h4 := hk.on hb4
     clear hb4
     go_wp2_with fail
     go_ret2
     exact ⟨rfl, h4.2⟩
   | dateformat m y k1 X hP hF hX =>
     have HP := Lib.hid hP
     have HF := Lib.hid hF
     have HX := Lib.hid hX
     clear hP hF hX
     go_wp2_with fail
     refine (HA1.out _ h2).mono ?_
     rintro E w3 ⟨rfl, hb3⟩
     have h3 := h2.on hb3
     clear hb3
     go_wp2_with fail
     refine (HP.out _).mono ?_
     rintro E w4 ⟨rfl, hb4⟩
     have h4 := h3.on hb4
     clear hb4
     by_cases hq : y = 0
     ·subst hq
      go_wp2_with fail
      refine (HF.out _).mono ?_
      rintro E w5 ⟨rfl, hb5⟩
      have h5 := h4.on hb5
      clear hb5
      go_wp2_with fail
      go_ret2
      exact ⟨by rw [show outS X (fstE 0 k1) = X by rw [fstE_eq rfl]; by_cases hk : k1 = 0; exact outS_ok hk; rw [outS_no hk, HX.out hk]]; rfl, h5.2⟩
     ·have gq : (y != 0) = true := by simp; exact hq
      have HQ := Lib.hid hq
      clear hq
      go_wp2_with fail
      go_ret2
      exact ⟨by rw [fstE_ne HQ.out, outS_no HQ.out]; rfl, h4.2⟩
   | dateadd X y hD0 =>
     have HD := Lib.hid hD0
     clear hD0
     go_wp2_with fail
     refine (HDT.out _ h2 _ _ HD.out).mono ?_
     rintro E w3 ⟨rfl, hb3⟩
     have h3 := h2.on hb3
     clear hb3
     go_wp2_with fail
     go_ret2
     exact ⟨rfl, h3.2⟩
   | sub X y hD0 =>
     have HD := Lib.hid hD0
     clear hD0
     go_wp2_with fail
     refine (HCN.out _ h2 _ _ _ HD.out).mono ?_
     rintro E w3 ⟨rfl, hb3⟩
     have h3 := h2.on hb3
     clear hb3
     go_wp2_with fail
     go_ret2
     exact ⟨rfl, h3.2⟩
   | pos X y hD0 =>
     have HD := Lib.hid hD0
     clear hD0
     go_wp2_with fail
     refine (HCN.out _ h2 _ _ _ HD.out).mono ?_
     rintro E w3 ⟨rfl, hb3⟩
     have h3 := h2.on hb3
     clear hb3
     go_wp2_with fail
     go_ret2
     exact ⟨rfl, h3.2⟩
   | replace X y hD0 =>
     have HD := Lib.hid hD0
     clear hD0
     go_wp2_with fail
     refine (HCN.out _ h2 _ _ _ HD.out).mono ?_
     rintro E w3 ⟨rfl, hb3⟩
     have h3 := h2.on hb3
     clear hb3
     go_wp2_with fail
     go_ret2
     exact ⟨rfl, h3.2⟩
   | part X y hD0 =>
     have HD := Lib.hid hD0
     clear hD0
     go_wp2_with fail
     refine (HCN.out _ h2 _ _ _ HD.out).mono ?_
     rintro E w3 ⟨rfl, hb3⟩
     have h3 := h2.on hb3
     clear hb3
     go_wp2_with fail
     go_ret2
     exact ⟨rfl, h3.2⟩
   | fixed X y hD0 =>
     have HD := Lib.hid hD0
     clear hD0
     go_wp2_with fail
     refine (HCN.out _ h2 _ _ _ HD.out).mono ?_
     rintro E w3 ⟨rfl, hb3⟩
     have h3 := h2.on hb3
     clear hb3
     go_wp2_with fail
     go_ret2
     exact ⟨rfl, h3.2⟩
   | padleft X y hD0 =>
     have HD := Lib.hid hD0
     clear hD0
     go_wp2_with fail
     refine (HCN.out _ h2 _ _ _ HD.out).mono ?_
     rintro E w3 ⟨rfl, hb3⟩
     have h3 := h2.on hb3
     clear hb3
     go_wp2_with fail
     go_ret2
     exact ⟨rfl, h3.2⟩
   | padright X y hD0 =>
     have HD := Lib.hid hD0
     clear hD0
     go_wp2_with fail
     refine (HCN.out _ h2 _ _ _ HD.out).mono ?_
     rintro E w3 ⟨rfl, hb3⟩
     have h3 := h2.on hb3
     clear hb3
     go_wp2_with fail
     go_ret2
     exact ⟨rfl, h3.2⟩
end Go.Proofs.YtcklofamaooegaaGreatDoor
namespace Go.Proofs.YtcklofamaooegaaGreatDoor
open Go.RowKit
def Both (N : ByteArray) (l : List ByteArray) : Prop := ∃ S z, CallP N l S z ∧ CallQ N l S z
theorem not_in (N : ByteArray) (l : List ByteArray) (h : idxN N l 0 < 0) : ∀ x ∈ l, N ≠ x := fun x hx e => by
 subst e
 have := mem_idxN N l 0 hx
 omega
theorem fstE_none {z y : Int} (h : fstE z y = 0) : z = 0 ∧ y = 0 := by
 unfold fstE at h
 split at h
 ·rename_i hz; exact ⟨hz, h⟩
 ·rename_i hz; exact absurd h hz
theorem out_same (F : Int → ByteArray × Int) {n n' z : Int} (h : z = 0 → n' = n) : outS (F n').1 (fstE z (F n').2) = outS (F n).1 (fstE z (F n).2) ∧ fstE z (F n').2 = fstE z (F n).2 := by
 by_cases hz : z = 0
 ·rw [h hz]; exact ⟨rfl, rfl⟩
 ·rw [fstE_ne hz, fstE_ne hz, outS_no hz, outS_no hz]; exact ⟨rfl, rfl⟩
theorem out_plain (F : Int → ByteArray) {n n' z : Int} (h : z = 0 → n' = n) : outS (F n') z = outS (F n) z := by
 by_cases hz : z = 0
 ·rw [h hz]
 ·rw [outS_no hz, outS_no hz]
theorem fixed_fine (a b k : Int) (i1 : I64 a) (i2 : I64 b) : ∃ (s : ByteArray) (z : Int), (z ≠ 0 → s = ⟨#[]⟩) ∧
  (∀ w, Tab w → Calls Tryz.prog 61 #[.agg #[.int .i64 a, .int .i64 b], .int .i64 k] w fun e w' => e = .returned (.tuple #[.string s, .int .i64 z]) ∧ Below w.heap.size w w') ∧
  (∀ w, Calls Tryz.prog 104 #[.agg #[.int .i64 a, .int .i64 b], .int .i64 k] w fun e w' => e = .returned (.tuple #[.string s, .int .i64 z]) ∧ Below w.heap.size w w') := by
 have hP := roundP_any a b k i1 i2
 have hR := roundR_any a b k i1 i2
 obtain ⟨⟨x, y, z⟩, hr⟩ : ∃ r, roundV a b k = r := ⟨_, rfl⟩
 rw [hr] at hP hR
 by_cases hz : z = 0
 ·subst hz
  obtain ⟨k0, k9, v, h1⟩ := round_den hr
  obtain ⟨n, rfl⟩ := Int.eq_ofNat_of_zero_le k0
  rw [show (n : Int).toNat = n by omega] at h1
  exact ⟨_, 0, fun h => absurd rfl h, fun w ht => fixedP_ok a b x y n w (by omega) v ht hP, fun w => fixedR_ok a b x y n w (by omega) v h1 hR⟩
 ·exact ⟨_, z, fun _ => rfl, fun w _ => fixedP_no a b k x y z w hz hP, fun w => fixedR_no a b k x y z w hz hR⟩
theorem format_fine (x d y : Int) (h : Fine (x, d, y)) : ∃ s : ByteArray, outS s y = s ∧
  (∀ w, Tab w → Calls Tryz.prog 27 #[.agg #[.int .i64 x, .int .i64 d]] w fun e w' => e = .returned (.string s) ∧ Below w.heap.size w w') ∧
  (∀ w, Calls Tryz.prog 41 #[.agg #[.int .i64 x, .int .i64 d]] w fun e w' => e = .returned (.string s) ∧ Below w.heap.size w w') := by
 have hi := h.i64
 by_cases hy : y = 0
 ·obtain ⟨s, a, b⟩ := format_both x d hi.1 hi.2
  exact ⟨s, outS_ok hy, a, b⟩
 ·obtain ⟨h1, h2⟩ := h.zero hy
  have h1 : x = 0 := h1
  have h2 : d = 0 := h2
  subst h1; subst h2
  exact ⟨⟨#[]⟩, outS_no hy, fun w _ => formatP_no 0 0 w hi.1 hi.2 (by decide), fun w => formatR_no 0 0 w hi.1 hi.2 (by decide)⟩
theorem fmt_none {s : ByteArray} {n : Int} (h : fmtE s n ≠ 0) : (⟨(fmtT s n).toArray⟩ : ByteArray) = ⟨#[]⟩ := by
 unfold fmtE at h
 unfold fmtT
 split at h
 ·rename_i h1
  split at h
  ·exact absurd rfl h
  ·rename_i h2; rw [if_neg (fun hh => h2 hh.2)]
 ·rename_i h1; rw [if_neg (fun hh => h1 hh.1)]
theorem both_len (l : List ByteArray) (hl : Sml l) (hl40 : l.length ≤ 40) : Both ⟨#[108, 101, 110]⟩ l := by
 exact ⟨⟨(Lib.itoa (nR (argV l 0) : Nat)).toArray⟩, 0, call_any l hl hl40 (.text ⟨#[108, 101, 110]⟩ (⟨(Lib.itoa (nR (argV l 0) : Nat)).toArray⟩) (0) (idxN_mem _ nms 0 (by decide +kernel)) (not_in _ _ (by decide +kernel)) (text_len l hl)), rcall_any l hl hl40 .len⟩
theorem both_occurs (l : List ByteArray) (hl : Sml l) (hl40 : l.length ≤ 40) : Both ⟨#[111, 99, 99, 117, 114, 115]⟩ l := by
 exact ⟨⟨(Lib.itoa ((occS (argV l 0) (rawV l 1)).length : Nat)).toArray⟩, 0, call_any l hl hl40 (.text ⟨#[111, 99, 99, 117, 114, 115]⟩ (⟨(Lib.itoa ((occS (argV l 0) (rawV l 1)).length : Nat)).toArray⟩) (0) (idxN_mem _ nms 0 (by decide +kernel)) (not_in _ _ (by decide +kernel)) (text_occurs l hl)), rcall_any l hl hl40 .occurs⟩
theorem both_lc (l : List ByteArray) (hl : Sml l) (hl40 : l.length ≤ 40) : Both ⟨#[108, 99]⟩ l := by
 exact ⟨casS false (argV l 0), 0, call_any l hl hl40 (.text ⟨#[108, 99]⟩ (casS false (argV l 0)) (0) (idxN_mem _ nms 0 (by decide +kernel)) (not_in _ _ (by decide +kernel)) (text_lc l hl)), rcall_any l hl hl40 .lc⟩
theorem both_uc (l : List ByteArray) (hl : Sml l) (hl40 : l.length ≤ 40) : Both ⟨#[117, 99]⟩ l := by
 exact ⟨casS true (argV l 0), 0, call_any l hl hl40 (.text ⟨#[117, 99]⟩ (casS true (argV l 0)) (0) (idxN_mem _ nms 0 (by decide +kernel)) (not_in _ _ (by decide +kernel)) (text_uc l hl)), rcall_any l hl hl40 .uc⟩
theorem both_lcfirst (l : List ByteArray) (hl : Sml l) (hl40 : l.length ≤ 40) : Both ⟨#[108, 99, 102, 105, 114, 115, 116]⟩ l := by
 exact ⟨fstS false (argV l 0), 0, call_any l hl hl40 (.text ⟨#[108, 99, 102, 105, 114, 115, 116]⟩ (fstS false (argV l 0)) (0) (idxN_mem _ nms 0 (by decide +kernel)) (not_in _ _ (by decide +kernel)) (text_lcfirst l hl)), rcall_any l hl hl40 .lcfirst⟩
theorem both_ucfirst (l : List ByteArray) (hl : Sml l) (hl40 : l.length ≤ 40) : Both ⟨#[117, 99, 102, 105, 114, 115, 116]⟩ l := by
 exact ⟨fstS true (argV l 0), 0, call_any l hl hl40 (.text ⟨#[117, 99, 102, 105, 114, 115, 116]⟩ (fstS true (argV l 0)) (0) (idxN_mem _ nms 0 (by decide +kernel)) (not_in _ _ (by decide +kernel)) (text_ucfirst l hl)), rcall_any l hl hl40 .ucfirst⟩
theorem both_trim (l : List ByteArray) (hl : Sml l) (hl40 : l.length ≤ 40) : Both ⟨#[116, 114, 105, 109]⟩ l := by
 exact ⟨argV l 0, 0, call_any l hl hl40 (.text ⟨#[116, 114, 105, 109]⟩ (argV l 0) (0) (idxN_mem _ nms 0 (by decide +kernel)) (not_in _ _ (by decide +kernel)) (text_trim l hl)), rcall_any l hl hl40 .trim⟩
theorem both_sub (l : List ByteArray) (hl : Sml l) (hl40 : l.length ≤ 40) : Both ⟨#[115, 117, 98]⟩ l := by
 obtain ⟨n1, z1, i1, P1, m1, e1, j1, Q1⟩ := int_any l 1 (0) (by omega) hl (by unfold I64; omega)
 obtain ⟨n2, z2, i2, P2, m2, e2, j2, Q2⟩ := int_any l 2 (32768) (by omega) hl (by unfold I64; omega)
 have hP := call_any l hl hl40 (.text ⟨#[115, 117, 98]⟩ (slcS (argV l 0) n1 n2) (fstE z1 z2) (idxN_mem _ nms 0 (by decide +kernel)) (not_in _ _ (by decide +kernel)) (text_sub l hl n1 z1 n2 z2 P1 P2 i1 i2))
 have hQ := rcall_any l hl hl40 (.sub _ _ (cnt_sub l hl m1 z1 m2 z2 Q1 Q2 j1 j2))
 refine ⟨_, _, hP, ?_⟩
 by_cases h : fstE z1 z2 = 0
 ·obtain ⟨h1, h2⟩ := fstE_none h
  rw [e1 h1, e2 h2] at hQ; exact hQ
 ·rw [outS_no h] at hQ ⊢; exact hQ
theorem both_pos (l : List ByteArray) (hl : Sml l) (hl40 : l.length ≤ 40) : Both ⟨#[112, 111, 115]⟩ l := by
 obtain ⟨n1, z1, i1, P1, m1, e1, j1, Q1⟩ := int_any l 2 (0) (by omega) hl (by unfold I64; omega)
 have hQ := rcall_any l hl hl40 (.pos _ _ (cnt_pos l hl m1 z1 Q1 j1))
 rcases fndN_bd (argV l 0) (rawV l 1) (max 0 n1).toNat with hk | hk
 ·refine ⟨_, _, call_any l hl hl40 (.text ⟨#[112, 111, 115]⟩ (⟨#[]⟩) (z1) (idxN_mem _ nms 0 (by decide +kernel)) (not_in _ _ (by decide +kernel)) (text_pos_no l hl n1 z1 P1 i1 hk)), ?_⟩
  by_cases h : z1 = 0
  ·rw [e1 h, if_pos h, if_pos hk] at hQ
   rw [outS_ok h]; exact hQ
  ·rw [if_neg h] at hQ
   rw [outS_no h]; exact hQ
 ·obtain ⟨k, hk2⟩ := Int.eq_ofNat_of_zero_le hk.1
  refine ⟨_, _, call_any l hl hl40 (.text ⟨#[112, 111, 115]⟩ (⟨(Lib.itoa (k : Nat)).toArray⟩) (z1) (idxN_mem _ nms 0 (by decide +kernel)) (not_in _ _ (by decide +kernel)) (text_pos_yes l hl n1 z1 P1 i1 k hk2)), ?_⟩
  by_cases h : z1 = 0
  ·rw [e1 h, if_pos h, if_neg (by omega), hk2] at hQ
   rw [outS_ok h]; exact hQ
  ·rw [if_neg h] at hQ
   rw [outS_no h]; exact hQ
theorem both_replace (l : List ByteArray) (hl : Sml l) (hl40 : l.length ≤ 40) : Both ⟨#[114, 101, 112, 108, 97, 99, 101]⟩ l := by
 obtain ⟨n1, z1, i1, P1, m1, e1, j1, Q1⟩ := int_any l 3 (-1) (by omega) hl (by unfold I64; omega)
 have hP := call_any l hl hl40 (.text ⟨#[114, 101, 112, 108, 97, 99, 101]⟩ ((repV (argV l 0) (rawV l 1) (rawV l 2) n1).1) (fstE z1 (repV (argV l 0) (rawV l 1) (rawV l 2) n1).2) (idxN_mem _ nms 0 (by decide +kernel)) (not_in _ _ (by decide +kernel)) (text_replace l hl n1 z1 P1 i1))
 have hQ := rcall_any l hl hl40 (.replace _ _ (cnt_replace l hl m1 z1 Q1 j1))
 obtain ⟨h1, h2⟩ := out_same (repV (argV l 0) (rawV l 1) (rawV l 2)) e1
 rw [h1, h2] at hQ
 exact ⟨_, _, hP, hQ⟩
theorem both_padleft (l : List ByteArray) (hl : Sml l) (hl40 : l.length ≤ 40) : Both ⟨#[112, 97, 100, 108, 101, 102, 116]⟩ l := by
 obtain ⟨n1, z1, i1, P1, m1, e1, j1, Q1⟩ := int_any l 1 (0) (by omega) hl (by unfold I64; omega)
 by_cases h0 : (rawV l 2).size = 0
 ·have hP := call_any l hl hl40 (.text ⟨#[112, 97, 100, 108, 101, 102, 116]⟩ ((padV true (argV l 0) n1 ⟨#[48]⟩).1) (fstE z1 (padV true (argV l 0) n1 ⟨#[48]⟩).2) (idxN_mem _ nms 0 (by decide +kernel)) (not_in _ _ (by decide +kernel)) (text_padleft0 l hl n1 z1 P1 i1 h0))
  have hQ := rcall_any l hl hl40 (.padleft _ _ (cnt_padleft0 l hl m1 z1 Q1 j1 h0))
  obtain ⟨h1, h2⟩ := out_same (fun n => padV true (argV l 0) n ⟨#[48]⟩) e1
  rw [h1, h2] at hQ
  exact ⟨_, _, hP, hQ⟩
 ·have h0 : 0 < (rawV l 2).size := by omega
  have hP := call_any l hl hl40 (.text ⟨#[112, 97, 100, 108, 101, 102, 116]⟩ ((padV true (argV l 0) n1 (rawV l 2)).1) (fstE z1 (padV true (argV l 0) n1 (rawV l 2)).2) (idxN_mem _ nms 0 (by decide +kernel)) (not_in _ _ (by decide +kernel)) (text_padleft1 l hl n1 z1 P1 i1 h0))
  have hQ := rcall_any l hl hl40 (.padleft _ _ (cnt_padleft1 l hl m1 z1 Q1 j1 h0))
  obtain ⟨h1, h2⟩ := out_same (fun n => padV true (argV l 0) n (rawV l 2)) e1
  rw [h1, h2] at hQ
  exact ⟨_, _, hP, hQ⟩
theorem both_padright (l : List ByteArray) (hl : Sml l) (hl40 : l.length ≤ 40) : Both ⟨#[112, 97, 100, 114, 105, 103, 104, 116]⟩ l := by
 obtain ⟨n1, z1, i1, P1, m1, e1, j1, Q1⟩ := int_any l 1 (0) (by omega) hl (by unfold I64; omega)
 by_cases h0 : (rawV l 2).size = 0
 ·have hP := call_any l hl hl40 (.text ⟨#[112, 97, 100, 114, 105, 103, 104, 116]⟩ ((padV false (argV l 0) n1 ⟨#[48]⟩).1) (fstE z1 (padV false (argV l 0) n1 ⟨#[48]⟩).2) (idxN_mem _ nms 0 (by decide +kernel)) (not_in _ _ (by decide +kernel)) (text_padright0 l hl n1 z1 P1 i1 h0))
  have hQ := rcall_any l hl hl40 (.padright _ _ (cnt_padright0 l hl m1 z1 Q1 j1 h0))
  obtain ⟨h1, h2⟩ := out_same (fun n => padV false (argV l 0) n ⟨#[48]⟩) e1
  rw [h1, h2] at hQ
  exact ⟨_, _, hP, hQ⟩
 ·have h0 : 0 < (rawV l 2).size := by omega
  have hP := call_any l hl hl40 (.text ⟨#[112, 97, 100, 114, 105, 103, 104, 116]⟩ ((padV false (argV l 0) n1 (rawV l 2)).1) (fstE z1 (padV false (argV l 0) n1 (rawV l 2)).2) (idxN_mem _ nms 0 (by decide +kernel)) (not_in _ _ (by decide +kernel)) (text_padright1 l hl n1 z1 P1 i1 h0))
  have hQ := rcall_any l hl hl40 (.padright _ _ (cnt_padright1 l hl m1 z1 Q1 j1 h0))
  obtain ⟨h1, h2⟩ := out_same (fun n => padV false (argV l 0) n (rawV l 2)) e1
  rw [h1, h2] at hQ
  exact ⟨_, _, hP, hQ⟩
theorem both_part (l : List ByteArray) (hl : Sml l) (hl40 : l.length ≤ 40) : Both ⟨#[112, 97, 114, 116]⟩ l := by
 obtain ⟨n1, z1, i1, P1, m1, e1, j1, Q1⟩ := int_any l 2 (0) (by omega) hl (by unfold I64; omega)
 have hP := call_any l hl hl40 (.text ⟨#[112, 97, 114, 116]⟩ (prtS (argV l 0) (rawV l 1) n1) (z1) (idxN_mem _ nms 0 (by decide +kernel)) (not_in _ _ (by decide +kernel)) (text_part l hl n1 z1 P1 i1))
 have hQ := rcall_any l hl hl40 (.part _ _ (cnt_part l hl m1 z1 Q1 j1))
 rw [out_plain (prtS (argV l 0) (rawV l 1)) e1] at hQ
 exact ⟨_, _, hP, hQ⟩
theorem both_fixed (l : List ByteArray) (hl : Sml l) (hl40 : l.length ≤ 40) : Both ⟨#[102, 105, 120, 101, 100]⟩ l := by
 obtain ⟨n1, z1, i1, P1, m1, e1, j1, Q1⟩ := int_any l 1 (0) (by omega) hl (by unfold I64; omega)
 obtain ⟨⟨x, d, y⟩, h1, h2, h3⟩ := eval_fine (argV l 0) (by have := argV_sz hl 0; omega)
 obtain ⟨S, k, h4, h5, h6⟩ := fixed_fine x d n1 h3.i64.1 h3.i64.2
 exact ⟨_, _, call_any l hl hl40 (.fixed n1 z1 x d y k S P1 h1 h5), rcall_any l hl hl40 (.fixed _ _ (cnt_fixed l hl m1 z1 x d y k S Q1 h2 (fun h => by rw [e1 h]; exact h6) h4))⟩
theorem both_dateadd (l : List ByteArray) (hl : Sml l) (hl40 : l.length ≤ 40) : Both ⟨#[100, 97, 116, 101, 97, 100, 100]⟩ l := by
 obtain ⟨n1, z1, i1, P1, m1, e1, j1, Q1⟩ := int_any l 1 (0) (by omega) hl (by unfold I64; omega)
 have h0 := argV_sz hl 0
 have hU := fun w => unit_word (argV l 2) w
 have hV := fun w => runit_any (argV l 2) w
 generalize idxN (argV l 2) uns 0 + 1 = u at *
 exact ⟨_, _, call_any l hl hl40 (.dateadd n1 z1 u _ _ _ _ _ _ P1 hU (fun w => parse_any (argV l 0) w (by omega)) (fun w => add_any _ u n1 w) (fun w ht => format_any patD _ w (by decide) ht)),
  rcall_any l hl hl40 (.dateadd _ _ (dat_any l hl m1 z1 u _ _ _ _ _ _ Q1 hV (fun w => parse_ref (argV l 0) w (by omega)) (fun h w => by rw [e1 h]; exact add_ref _ u n1 w) (fun w => format_ref patD _ w (by decide)) fmt_none))⟩
theorem both_dateformat (l : List ByteArray) (hl : Sml l) (hl40 : l.length ≤ 40) : Both ⟨#[100, 97, 116, 101, 102, 111, 114, 109, 97, 116]⟩ l := by
 have h0 := argV_sz hl 0
 have h1 := argV_sz hl 1
 exact ⟨_, _, call_any l hl hl40 (.dateformat _ _ _ _ (fun w => parse_any (argV l 1) w (by omega)) (fun w ht => format_any (argV l 0) _ w (by omega) ht)),
  rcall_any l hl hl40 (.dateformat _ _ _ _ (fun w => parse_ref (argV l 1) w (by omega)) (fun w => format_ref (argV l 0) _ w (by omega)) fmt_none)⟩
theorem both_formula (l : List ByteArray) (hl : Sml l) (hl40 : l.length ≤ 40) : Both ⟨#[102, 111, 114, 109, 117, 108, 97]⟩ l := by
 by_cases h0 : (argV l 0).size = 0
 ·exact ⟨_, _, call_any l hl hl40 (.formula0 h0), rcall_any l hl hl40 (.formula0 h0)⟩
 ·have h0 : 0 < (argV l 0).size := by omega
  obtain ⟨⟨x, d, y⟩, h1, h2, h3⟩ := eval_fine (argV l 0) (by have := argV_sz hl 0; omega)
  obtain ⟨s, h4, h5, h6⟩ := format_fine x d y h3
  have hP := call_any l hl hl40 (.formula x d y s h0 h1 h5)
  rw [h4] at hP
  exact ⟨_, _, hP, rcall_any l hl hl40 (.formula x d y s h0 h2 h6)⟩
theorem both_any (N : ByteArray) (hN : N ∈ nms) (l : List ByteArray) (hl : Sml l) (hl40 : l.length ≤ 40) : Both N l := by
 unfold nms at hN
 simp only [List.mem_cons, List.not_mem_nil, or_false] at hN
 rcases hN with rfl | rfl | rfl | rfl | rfl | rfl | rfl | rfl | rfl | rfl | rfl | rfl | rfl | rfl | rfl | rfl | rfl
 ·exact both_dateadd l hl hl40
 ·exact both_dateformat l hl hl40
 ·exact both_fixed l hl hl40
 ·exact both_formula l hl hl40
 ·exact both_lc l hl hl40
 ·exact both_lcfirst l hl hl40
 ·exact both_len l hl hl40
 ·exact both_occurs l hl hl40
 ·exact both_padleft l hl hl40
 ·exact both_padright l hl hl40
 ·exact both_part l hl hl40
 ·exact both_pos l hl hl40
 ·exact both_replace l hl hl40
 ·exact both_sub l hl hl40
 ·exact both_trim l hl hl40
 ·exact both_uc l hl hl40
 ·exact both_ucfirst l hl hl40
end Go.Proofs.YtcklofamaooegaaGreatDoor
namespace Go.Proofs.YtcklofamaooegaaGreatDoor
open Go.RowKit
attribute [local go_sem ↓] Go.wp_at_zero Go.wp_at_succ
theorem lenL (s : ByteArray) : s.data.toList.length = s.size := by simp
theorem parse_whole (l : List UInt8) (h : ∀ c ∈ l, Num.isD c = true) (h1 : l ≠ []) (h9 : l.length ≤ 9) : Ret 112 #[.string ⟨l.toArray⟩] ((Num.value 0 l : Nat), 1, 0) := by
 obtain ⟨s, hs⟩ : ∃ s : ByteArray, s = ⟨l.toArray⟩ := ⟨_, rfl⟩
 have hl : s.data.toList = l := by rw [hs]
 have hz : s.size = l.length := by rw [hs]; rfl
 have hp : 0 < l.length := List.length_pos_iff.2 h1
 rw [← hs]
 have hall : ∀ c ∈ s.data.toList, Num.isD c = true := by rw [hl]; exact h
 have hno : Lib.indexByte s.data.toList 46 = -1 := by
  rcases index_cases s.data.toList with ⟨a, _⟩ | ⟨p, hp, _, a, _⟩
  ·exact a
  ·have := hall _ (List.getElem_mem hp)
   rw [a] at this
   exact absurd this (by decide)
 have hd0 : Num.endD s 0 = s.size := by
  unfold Num.endD
  rw [List.drop_zero, Num.lead_all hall, lenL]
  omega
 have h0 : 0 < s.size := by omega
 have hd := Num.isD_iff.1 (hall s[0] (by rw [Num.at_list s 0 h0]; exact List.getElem_mem _))
 have hA : ∀ w, Calls Tryz.prog 66 #[.string (⟨#[48]⟩ ++ s ++ ⟨#[]⟩)] w fun e w' => e = .returned (.tuple #[.int .i64 (Num.value 0 s.data.toList), .nilIface]) ∧ Below w.heap.size w w' := by
  intro w
  have e : (⟨#[48]⟩ : ByteArray) ++ s ++ ⟨#[]⟩ = ⟨(48 :: s.data.toList).toArray⟩ := by
   apply ByteArray.ext
   rw [ByteArray.data_append, ByteArray.data_append]
   apply Array.toList_inj.1
   rw [Array.toList_append, Array.toList_append]
   simp
  rw [e]
  exact atoi_any _ w hall (by rw [lenL]; omega)
 have hv := Num.value_lt hall 0
 have hpw : 10 ^ s.data.toList.length ≤ 10 ^ 9 := Nat.pow_le_pow_right (by omega) (by rw [lenL]; omega)
 have hr : Num.val ((Num.value 0 s.data.toList : Nat) : Int) 1 = true := Num.val_iff.2 ⟨by omega, by omega, by omega, by omega, by simp⟩
 have hred := Num.red_val_self hr
 have hP := fun w => parseP_n_a4 s s ⟨#[]⟩ w (by omega) (by omega) (by decide) h0 (by omega) (by omega) (by omega) (by omega) (by decide) (fun w => cut_no _ w hno) (fun w => hd0 ▸ digitsP _ w (by omega)) ((Num.value 0 s.data.toList : Nat) : Int) 1 hA (fun w => power_any 0 w (by omega)) (by omega) (by omega) (by omega) (by omega)
 have e1 : Num.redN ((Num.value 0 s.data.toList : Nat) : Int) 1 = ((Num.value 0 s.data.toList : Nat) : Int) := congrArg (fun x => x.1) hred
 have e2 : Num.redD ((Num.value 0 s.data.toList : Nat) : Int) 1 = 1 := congrArg (fun x => x.2.1) hred
 have e3 : Num.redE ((Num.value 0 s.data.toList : Nat) : Int) 1 = 0 := congrArg (fun x => x.2.2) hred
 intro w
 have := hP w
 rw [e1, e2, e3, hl] at this
 exact this
theorem digitB (d : Nat) (h : d < 10) : Num.isD (UInt8.ofNat (48 + d)) = true ∧ (UInt8.ofNat (48 + d)).toNat = 48 + d := by
 have : (UInt8.ofNat (48 + d)).toNat = 48 + d := by simp; omega
 exact ⟨Num.isD_iff.2 (by omega), this⟩
theorem decD_all (n : Nat) : (∀ c ∈ Lib.decDigits n, Num.isD c = true) ∧ Num.value 0 (Lib.decDigits n) = n := by
 induction n using Nat.strongRecOn with
 | ind n ih =>
   rw [decDigits_step]
   by_cases h : n < 10
   ·rw [if_pos h]
    obtain ⟨h1, h2⟩ := digitB n h
    refine ⟨fun c hc => by rw [List.mem_singleton.1 hc]; exact h1, ?_⟩
    rw [Num.value_cons, Num.value_nil, h2]
    omega
   ·rw [if_neg h]
    obtain ⟨h1, h2⟩ := digitB (n % 10) (by omega)
    obtain ⟨g1, g2⟩ := ih (n / 10) (by omega)
    refine ⟨fun c hc => ?_, ?_⟩
    ·rcases List.mem_append.1 hc with hc | hc
     ·exact g1 c hc
     ·rw [List.mem_singleton.1 hc]; exact h1
    ·rw [Num.value_snoc, g2, h2]
     omega
theorem decD_len : ∀ n : Nat, n < 1000000000 → (Lib.decDigits n).length ≤ 9 := fun n h => (Num.fill_eq 8 n h).1
theorem decD_ne (n : Nat) : Lib.decDigits n ≠ [] := by
 rw [decDigits_step]
 split <;> simp
theorem intP_dec (l : List ByteArray) (i m : Nat) (emp : Int) (hi : i ≤ 1000) (hl : Sml l) (hm : m < 1000000000) (ha : argV l i = ⟨(Lib.decDigits m).toArray⟩) : IntP l i emp m 0 := by
 have h0 : 0 < (argV l i).size := by
  rw [ha, Lib.size_mk]
  exact List.length_pos_iff.2 (decD_ne m)
 have hP := parse_whole (Lib.decDigits m) (decD_all m).1 (decD_ne m) (decD_len m hm)
 rw [(decD_all m).2, ← ha] at hP
 have := intP_num l i emp m 1 0 hi hl h0 hP
 rwa [if_neg (fun h => h.2 rfl)] at this
theorem call_sub_dec (l : List ByteArray) (hl : Sml l) (hl40 : l.length ≤ 40) (n m : Int) (hn : I64 n) (hm : I64 m) (h1 : IntP l 1 0 n 0) (h2 : IntP l 2 32768 m 0) : CallP ⟨#[115, 117, 98]⟩ l (slcS (argV l 0) n m) 0 := by
 have := call_any l hl hl40 (.text ⟨#[115, 117, 98]⟩ (slcS (argV l 0) n m) 0 (idxN_mem _ nms 0 (by decide +kernel)) (not_in _ _ (by decide +kernel)) (text_sub l hl n 0 m 0 h1 h2 hn hm))
 rwa [outS_ok rfl] at this
def exL : List ByteArray := [⟨#[97, 98, 99, 100, 101, 102]⟩, ⟨#[50]⟩]
theorem exL_sml : Sml exL := ⟨by decide, fun x hx => by
 unfold exL at hx
 simp only [List.mem_cons, List.not_mem_nil, or_false] at hx
 rcases hx with rfl | rfl <;> decide⟩
theorem exL_call : CallP ⟨#[115, 117, 98]⟩ exL ⟨#[99, 100, 101, 102]⟩ 0 := by
 have h1 : argV exL 1 = ⟨(Lib.decDigits 2).toArray⟩ := bytes_ext (by decide +kernel)
 have h2 : (argV exL 2).size = 0 := by decide +kernel
 have h := call_sub_dec exL exL_sml (by decide) 2 32768 (by unfold I64; omega) (by unfold I64; omega) (intP_dec exL 1 2 0 (by omega) exL_sml (by omega) h1) (intP_empty exL 2 32768 (by omega) exL_sml h2)
 have e : slcS (argV exL 0) 2 32768 = ⟨#[99, 100, 101, 102]⟩ := bytes_ext (by decide +kernel)
 rwa [e] at h
theorem known11_any (w : World) (he : Env w) : Calls Tryz.prog 10 #[] w fun e w' => e = .returned (.bool true) ∧ Below w.heap.size w w' := by
 have hb := below_new0 w (.cells #[.string ⟨#[97, 98, 99, 100, 101, 102]⟩, .string ⟨#[50]⟩] 9)
 have hS : SL (w.alloc (.cells #[.string ⟨#[97, 98, 99, 100, 101, 102]⟩, .string ⟨#[50]⟩] 9)) (some ⟨w.heap.size, 0, none⟩) 2 exL := SL.made w _ exL (by decide) (by decide)
 have hC : Calls Tryz.prog 11 #[.string ⟨#[115, 117, 98]⟩, .slice (some ⟨w.heap.size, 0, none⟩) 2 2] (w.alloc (.cells #[.string ⟨#[97, 98, 99, 100, 101, 102]⟩, .string ⟨#[50]⟩] 9)) fun e w' => e = .returned (.tuple #[.string ⟨#[99, 100, 101, 102]⟩, .int .i64 0]) ∧ Below (w.alloc (.cells #[.string ⟨#[97, 98, 99, 100, 101, 102]⟩, .string ⟨#[50]⟩] 9)).heap.size (w.alloc (.cells #[.string ⟨#[97, 98, 99, 100, 101, 102]⟩, .string ⟨#[50]⟩] 9)) w' := exL_call _ _ _ hS (he.below hb)
 have HC := Lib.hid hC
 clear hC hS
 go_enter Tryz.func10, Tryz.ntmps10
 go_wp2_with fail
 refine HC.out.mono ?_
 rintro E w1 ⟨rfl, hb1⟩
 have hbx := below_then hb hb1
 clear hb1 hb
 go_wp2_with fail
 refine (names_any _).mono ?_
 rintro E w2 ⟨p, rfl, -, hb2⟩
 go_wp2_with fail
 go_ret
 exact ⟨rfl, below_then hbx hb2⟩
def LrgR (l : List ByteArray) (b : Bool) : Prop := b = false → l.length ≤ 61 ∧ ∀ x ∈ l, x.size ≤ 300
def LrgE (l : List ByteArray) (E : Ending) : Prop := ∃ b, E = .returned (.bool b) ∧ LrgR l b
theorem large_any (l : List ByteArray) (p : Option Addr) (c : Nat) (w : World) (hS : SL w p c l) (hz : ∀ x ∈ l, x.size ≤ 9223372036854775807) :
  Calls Tryz.prog 9 #[.slice p l.length c] w fun E w' => LrgE l E ∧ w = w' := by
 have hcap := hS.1
 have hcap2 := hS.2.1
 obtain ⟨n, hn⟩ : ∃ n, n = l.length := ⟨_, rfl⟩
 rw [← hn] at hcap ⊢
 have HS := Lib.hid hS
 have HN := Lib.hid hn
 have HZ := Lib.hid hz
 clear hS hn hz
 go_enter Tryz.func9, Tryz.ntmps9
 go_wp2_with fail
 go_loopg [3] 63 (fun g s3 wr => ∃ k : Nat, s3 = .int .i64 k ∧ k ≤ n ∧ k ≤ 61 ∧ 61 < k + g ∧ (∀ (j : Nat) (x : ByteArray), j < k → l[j]? = some x → x.size ≤ 300) ∧ w = wr)
 case atStart => exact ⟨0, rfl, by omega, by omega, by omega, fun j x h => by omega, rfl⟩
 case round =>
  obtain ⟨k, rfl, hk, hk61, hg, hsm, rfl⟩ := hrel
  have HSM := Lib.hid hsm
  clear hsm
  by_cases h1 : k < n
  ·have g1 : decide (k < n) = true := decide_eq_true h1
   by_cases h2 : 60 < k
   ·have g2 : decide (60 < k) = true := decide_eq_true h2
    go_wp2_with fail
    go_ret
    exact ⟨⟨true, rfl, fun h => (by cases h)⟩, rfl⟩
   ·have g2 : decide (60 < k) = false := decide_eq_false h2
    obtain ⟨b0, o, rfl, hbl, hcc⟩ := HS.out.all (by rw [← HN.out]; omega)
    obtain ⟨x, hx⟩ : ∃ x, l[k]? = some x := ⟨_, List.getElem?_eq_getElem (by rw [← HN.out]; exact h1)⟩
    have d0 := hcc k x hx
    have hxz := HZ.out x (List.mem_of_getElem? hx)
    have HX := Lib.hid hx
    clear hcc hx
    by_cases h3 : 300 < x.size
    ·have g3 : decide (300 < x.size) = true := decide_eq_true h3
     go_wp2_with fail
     go_ret
     exact ⟨⟨true, rfl, fun h => (by cases h)⟩, rfl⟩
    ·have g3 : decide (300 < x.size) = false := decide_eq_false h3
     go_wp2_with fail
     go_roundg (61 - k)
     case measure => omega
     case rel => exact ⟨k + 1, by go_num, by omega, by omega, by omega, fun j y hj hy => by
      rcases Nat.lt_or_ge j k with h | h
      ·exact HSM.out j y h hy
      ·have : j = k := by omega
       subst this
       have := HX.out.symm.trans hy
       cases this
       omega, rfl⟩
  ·have g1 : decide (k < n) = false := decide_eq_false h1
   go_wp2_with fail
   go_ret
   exact ⟨⟨false, rfl, fun _ => ⟨by rw [← HN.out]; omega, fun x hx => by
    obtain ⟨j, hj⟩ := List.mem_iff_getElem?.1 hx
    have := (List.getElem?_eq_some_iff.1 hj).1
    exact HSM.out j x (by rw [← HN.out] at this; omega) hj⟩⟩, rfl⟩
theorem sameStrings_any (l : List ByteArray) (p q : Option Addr) (c d : Nat) (w : World) (hS : SL w p c l) (hT : SL w q d l) (h0 : 0 < l.length) (hl : l.length ≤ 1000) :
  Calls Tryz.prog 13 #[.slice p l.length c, .slice q l.length d] w fun E w' => E = .returned (.bool true) ∧ Below w.heap.size w w' := by
 have hcap := hS.1
 have hcap2 := hS.2.1
 have hdap := hT.1
 have hdap2 := hT.2.1
 obtain ⟨b, o, rfl, hbl, hcc⟩ := hS.all h0
 obtain ⟨b', o', rfl, hbl', hcc'⟩ := hT.all h0
 obtain ⟨n, hn⟩ : ∃ n, n = l.length := ⟨_, rfl⟩
 rw [← hn] at hcap hdap h0 hl ⊢
 have HN := Lib.hid hn
 have HC := Lib.hid hcc
 have HD := Lib.hid hcc'
 clear hS hT hcc hcc' hn
 go_enter Tryz.func13, Tryz.ntmps13
 go_wp2_with fail
 go_loopg [5] (n + 1) (fun g s5 wr => ∃ k : Nat, s5 = .int .i64 k ∧ k ≤ n ∧ n < k + g ∧ Below w.heap.size w wr)
 case atStart => exact ⟨0, rfl, by omega, by omega, Below.refl _ _⟩
 case round =>
  obtain ⟨k, rfl, hk, hg, hbw⟩ := hrel
  by_cases h1 : k < n
  ·have g1 : decide (k < n) = true := decide_eq_true h1
   obtain ⟨x, hx⟩ : ∃ x, l[k]? = some x := ⟨_, List.getElem?_eq_getElem (by rw [← HN.out]; exact h1)⟩
   have d0 := (hbw.cell (p := ⟨b, o + k, none⟩) hbl).trans (HC.out k x hx)
   have d1 := (hbw.cell (p := ⟨b', o' + k, none⟩) hbl').trans (HD.out k x hx)
   have hb1 : b < wr.heap.size := Nat.lt_of_lt_of_le hbl hbw.size
   have hb2 : b' < wr.heap.size := Nat.lt_of_lt_of_le hbl' hbw.size
   have HBW := Lib.hid hbw
   clear hx hbw
   go_wp2_with fail
   refine wp_region_gr (by kernel_rfl) (by kernel_rfl) ?_
   repeat (go_big_quiet_step (fail))
   with_reducible refine wpQuiet_nil ?_
   intro _ hw'; obtain ⟨w6, hw''⟩ := hw'; subst hw''
   have B6 := gr_below wr w6
   go_wp2_with fail
   go_roundg (n - k)
   case measure => omega
   case rel => exact ⟨k + 1, by go_num, by omega, by omega, below_then HBW.out B6⟩
  ·have g1 : decide (k < n) = false := decide_eq_false h1
   go_wp2_with fail
   go_ret
   exact ⟨rfl, hbw⟩
theorem call_unknown (N : ByteArray) (hN : N ∉ nms) (v : Value) (w : World) :
  Calls Tryz.prog 11 #[.string N, v] w fun E w' => E = .returned (.tuple #[.string ⟨#[]⟩, .int .i64 4]) ∧ Below w.heap.size w w' := by
 have hCt : ∀ W q, SL W q 17 nms → Calls Tryz.prog 23 #[.slice q 17 17, .string N] W fun e w' => e = .returned (.bool false) ∧ W = w' := fun W q h => by
  have h1 := contains_any N q W h
  rwa [decide_eq_false (fun h => hN (idxN_mem N nms 0 h))] at h1
 have HCT := Lib.hid hCt
 clear hCt hN
 go_enter Tryz.func11, Tryz.ntmps11
 go_wp2_with fail
 refine (names_any w).mono ?_
 rintro E w1 ⟨q, rfl, hq, hb1⟩
 have hC1 := HCT.out w1 q hq
 clear hq
 go_wp2_with fail
 refine hC1.mono ?_
 rintro E w2 ⟨rfl, rfl⟩
 go_wp2_with fail
 go_ret2
 exact ⟨rfl, hb1⟩
theorem rcall_unknown (N : ByteArray) (hN : N ∉ nms) (v : Value) (w : World) :
  Calls Tryz.prog 12 #[.string N, v] w fun E w' => E = .returned (.tuple #[.string ⟨#[]⟩, .int .i64 4]) ∧ Below w.heap.size w w' := by
 have hK := rknown_any N w
 rw [decide_eq_false (fun h => hN (idxN_mem N nms 0 h))] at hK
 clear hN
 go_enter Tryz.func12, Tryz.ntmps12
 go_wp2_with fail
 refine hK.mono ?_
 rintro E w1 ⟨rfl, hb1⟩
 go_wp2_with fail
 go_ret2
 exact ⟨rfl, hb1⟩
theorem call_many (N : ByteArray) (hN : N ∈ nms) (p : Option Addr) (n c : Nat) (h40 : 40 < n) (hn : n ≤ 9223372036854775807) (w : World) :
  Calls Tryz.prog 11 #[.string N, .slice p n c] w fun E w' => E = .returned (.tuple #[.string ⟨#[]⟩, .int .i64 8]) ∧ Below w.heap.size w w' := by
 have hCt : ∀ W q, SL W q 17 nms → Calls Tryz.prog 23 #[.slice q 17 17, .string N] W fun e w' => e = .returned (.bool true) ∧ W = w' := fun W q h => by
  have h1 := contains_any N q W h
  rwa [decide_eq_true (mem_idxN N nms 0 hN)] at h1
 have HCT := Lib.hid hCt
 have g40 : decide (40 < n) = true := decide_eq_true h40
 clear hCt hN
 go_enter Tryz.func11, Tryz.ntmps11
 go_wp2_with fail
 refine (names_any w).mono ?_
 rintro E w1 ⟨q, rfl, hq, hb1⟩
 have hC1 := HCT.out w1 q hq
 clear hq
 go_wp2_with fail
 refine hC1.mono ?_
 rintro E w2 ⟨rfl, rfl⟩
 go_wp2_with fail
 go_ret2
 exact ⟨rfl, hb1⟩
theorem rcall_many (N : ByteArray) (hN : N ∈ nms) (p : Option Addr) (n c : Nat) (h40 : 40 < n) (hn : n ≤ 9223372036854775807) (w : World) :
  Calls Tryz.prog 12 #[.string N, .slice p n c] w fun E w' => E = .returned (.tuple #[.string ⟨#[]⟩, .int .i64 8]) ∧ Below w.heap.size w w' := by
 have hK := rknown_any N w
 rw [decide_eq_true (mem_idxN N nms 0 hN)] at hK
 have g40 : decide (40 < n) = true := decide_eq_true h40
 clear hN
 go_enter Tryz.func12, Tryz.ntmps12
 go_wp2_with fail
 refine hK.mono ?_
 rintro E w1 ⟨rfl, hb1⟩
 go_wp2_with fail
 go_ret2
 exact ⟨rfl, hb1⟩
theorem two_calls (N : ByteArray) (l : List ByteArray) (h : l.length ≤ 61 ∧ ∀ x ∈ l, x.size ≤ 300) : ∃ S z, CallP N l S z ∧ CallQ N l S z := by
 by_cases hN : N ∈ nms
 ·by_cases h40 : l.length ≤ 40
  ·exact both_any N hN l ⟨by omega, fun x hx => by have := h.2 x hx; omega⟩ h40
  ·exact ⟨⟨#[]⟩, 8, fun w p c _ _ => call_many N hN p _ c (by omega) (by omega) w, fun w p c _ => rcall_many N hN p _ c (by omega) (by omega) w⟩
 ·exact ⟨⟨#[]⟩, 4, fun w p c _ _ => call_unknown N hN _ w, fun w p c _ => rcall_unknown N hN _ w⟩
theorem law_call (N : ByteArray) (l : List ByteArray) (p : Option Addr) (c : Nat) (w : World) (hN : N.size ≤ 9223372036854775807) (hS : SL w p c l) (hz : ∀ x ∈ l, x.size ≤ 9223372036854775807) (he : Env w) :
  Calls Tryz.prog 3 #[.string N, .slice p l.length c] w fun e w' => e = .returned (.bool true) ∧ Below w.heap.size w w' := by
 have hK := fun W (hb : Below w.heap.size w W) => known11_any W (he.below hb)
 have HK := Lib.hid hK
 have HE := Lib.hid he
 by_cases h1 : 100 < N.size
 ·have g1 : decide (100 < N.size) = true := decide_eq_true h1
  clear hK he
  go_enter Tryz.func3, Tryz.ntmps3
  go_wp2_with fail
  refine (HK.out _ (Below.refl _ _)).mono ?_
  rintro E w1 ⟨rfl, hb1⟩
  go_wp2_with fail
  go_ret
  exact ⟨rfl, hb1⟩
 ·have g1 : decide (100 < N.size) = false := decide_eq_false h1
  have hL := large_any l p c w hS hz
  have hcap := hS.1
  have hcap2 := hS.2.1
  have HS := Lib.hid hS
  have HT := Lib.hid (two_calls N l)
  obtain ⟨n, hn⟩ : ∃ n, n = l.length := ⟨_, rfl⟩
  have hTS := fun S (z : Int) (h : CallP N l S z) W p c (h1 : SL W p c l) (h2 : Env W) => h W p c h1 h2
  have hTQ := fun S (z : Int) (h : CallQ N l S z) W p c (h1 : SL W p c l) => h W p c h1
  rw [← hn] at hL hcap hTS hTQ ⊢
  have HTS := Lib.hid hTS
  have HTQ := Lib.hid hTQ
  clear hK he hS hz hTS hTQ hn
  go_enter Tryz.func3, Tryz.ntmps3
  go_wp2_with fail
  refine hL.mono ?_
  rintro E w1 ⟨⟨b, rfl, hb⟩, rfl⟩
  cases b with
  | true =>
    go_wp2_with fail
    refine (HK.out _ (Below.refl _ _)).mono ?_
    rintro E w1 ⟨rfl, hb1⟩
    go_wp2_with fail
    go_ret
    exact ⟨rfl, hb1⟩
  | false =>
    obtain ⟨S, z, hP, hQ⟩ := HT.out (hb rfl)
    have hC := HTS.out S z hP w p c HS.out HE.out
    have hD := HTQ.out S z hQ
    have HC := Lib.hid hC
    have HD := Lib.hid hD
    clear hP hQ hC hD hb hL
    go_wp2_with fail
    refine HC.out.mono ?_
    rintro E w1 ⟨rfl, hb1⟩
    go_wp2_with fail
    refine (HD.out w1 p c (HS.out.below hb1)).mono ?_
    rintro E w2 ⟨rfl, hb2⟩
    have hb := below_then hb1 hb2
    clear hb1 hb2
    go_wp2_with fail
    refine (names_any w2).mono ?_
    rintro E w3 ⟨q, rfl, hq, hb3⟩
    go_wp2_with fail
    refine (rnames_any w3).mono ?_
    rintro E w4 ⟨r, rfl, hr, hb4⟩
    have hM := sameStrings_any nms q r 17 17 w4 (hq.below hb4) hr (by decide) (by decide)
    have hM : Calls Tryz.prog 13 #[.slice q 17 17, .slice r 17 17] w4 fun E w' => E = .returned (.bool true) ∧ Below w4.heap.size w4 w' := hM
    have HM := Lib.hid hM
    have hbb := below_then (below_then hb hb3) hb4
    clear hM hq hr hb hb3 hb4
    go_wp2_with fail
    refine HM.out.mono ?_
    rintro E w5 ⟨rfl, hb5⟩
    have hbc := below_then hbb hb5
    clear hb5 hbb
    go_wp2_with fail
    refine (HK.out _ hbc).mono ?_
    rintro E w6 ⟨rfl, hb6⟩
    go_wp2_with fail
    go_ret
    exact ⟨rfl, below_then hbc hb6⟩
end Go.Proofs.YtcklofamaooegaaGreatDoor
namespace Go.Proofs.YtcklofamaooegaaGreatDoor
open Go.RowKit Go.ChangeShapes Go.WideShapes
theorem spot_of_cell {w : World} {a : Addr} {v : Value} (h : w.cell? a = some v) : a.spot = none := by
 unfold World.cell? at h
 split at h
 ·split at h
  ·cases h
  ·rename_i h1; simpa using h1
 ·cases h
set_option maxRecDepth 20000 in
theorem open_strs {H : Type} {enc : TypeId × Value → H} {w : World} {base : Nat} {spare : Nat → Bool} {held : Bool} {r : Reach} {b0 : Nat} {v : Value} {d : DataW H} {p : List MemPlace} (hv : Value.okWide Tryz.prog w r b0 22 v) (h : DataW.Trod enc Tryz.prog w base spare held 22 v d p) :
  ∃ (a : Option Addr) (l : List ByteArray) (c : Nat), v = .slice a l.length c ∧ SL w a c l ∧ ∀ x ∈ l, x.size ≤ 9223372036854775807 := by
 obtain ⟨a, len, cap, rfl⟩ := okWide_slice Tryz.underlying22 hv
 obtain ⟨fuel, hf⟩ := h
 rcases open_strings Tryz.underlying22 Tryz.underlying9 (by kernel_rfl) hf with ⟨hcs, _⟩ | ⟨x, l, c, ss, hcs, _, hl, hm, hlen, _, hcell, hsz⟩
 ·simp [Value.cells] at hcs
  obtain ⟨rfl, rfl, rfl⟩ := hcs
  exact ⟨none, [], 0, rfl, SL.none_left, fun x hx => by cases hx⟩
 ·simp [Value.cells] at hcs
  obtain ⟨rfl, rfl, rfl⟩ := hcs
  have hll : len ≤ ss.length := by
   rw [hlen]; split <;> omega
  have hl2 : (ss.take len).length = len := by rw [List.length_take]; omega
  unfold maxLen at hm
  refine ⟨some x, ss.take len, cap, by rw [hl2], ⟨by rw [hl2]; exact hl, by omega, ?_⟩, fun y hy => by have := hsz y (List.mem_of_mem_take hy); unfold maxLen at this; omega⟩
  by_cases h0 : len = 0
  ·exact .inl (by rw [h0, List.take_zero])
  ·have h1 := hcell 0 (by omega)
   have hx0 : x.add 0 = x := rfl
   rw [hx0] at h1
   have hs := spot_of_cell h1
   have hlt := World.block_lt_of_cell? w _ h1
   obtain ⟨xb, xo, xs⟩ := x
   simp only at hs
   subst hs
   refine .inr ⟨xb, xo, rfl, hlt, fun j y hj => ?_⟩
   have hjl : j < len := by have := (List.getElem?_eq_some_iff.1 hj).1; omega
   rw [List.getElem?_take, if_pos hjl] at hj
   have h2 := hcell j (by omega)
   rw [List.getD_eq_getElem?_getD, hj] at h2
   have e : (⟨xb, xo, none⟩ : Addr).add j = ⟨xb, xo + j, none⟩ := by
    unfold Addr.add
    split
    ·rename_i hj0; rw [hj0]; rfl
    ·rfl
   rw [e] at h2
   exact h2
end Go.Proofs.YtcklofamaooegaaGreatDoor
