/-
  The claim's own texts, packed. Conditions: those typed in each theorem.
-/
import Derived.Test.YtcklofamaooegaaGreatDoorZKabu
import Derived.Test.YtcklofamaooegaaGreatDoorCards
import Derived.Test.YtcklofamaooegaaGreatDoorTie
import Derived.Test.YtcklofamaooegaaGreatDoorZKaaz
import Derived.ProofKit
import Derived.OpenShut
import Derived.ShutString
import Derived.ChangeOld
import Derived.Below
import Derived.Lib.SmallJoins
import Derived.Deep.DeepHandedRow
namespace Go.Proofs.YtcklofamaooegaaGreatDoor
open Go.RowKit
set_option linter.unusedVariables false
attribute [local go_sem ↓] Go.wp_at_zero Go.wp_at_succ
theorem u8_eq {c : UInt8} {n : Nat} (hn : n < 256) : c = UInt8.ofNat n ↔ c.toNat = n := by
 constructor
 ·rintro rfl; rw [UInt8.toNat_ofNat']; omega
 ·intro h
  apply UInt8.toNat_inj.1
  rw [UInt8.toNat_ofNat', h]; omega

theorem own_iter {q : Nat → Prop} {B : Nat} {w : World} {v : Value} {l : List Nat} (h : nS.own 3 q B w v l) {k : Nat} (hk : k < B) (s : ByteArray) (p : Nat) : nS.own 3 q B (w.iterAt k s p) v l := by
 obtain ⟨xs, h1, h2⟩ := h
 exact ⟨xs, ownsRow_iterAt h1 hk s p, h2⟩

set_option maxRecDepth 10000 in
set_option maxHeartbeats 2000000 in
theorem rstarts_any (s : ByteArray) (w : World) (hs : s.size ≤ 100000000) : Calls Tryz.prog 47 #[.string s] w fun e w' => ∃ p c, e = .returned (.slice p (stL s).length c) ∧ NSL w' p c (stL s) ∧ Below w.heap.size w w' := by
 have hW : (w.iter s 0).heap[w.heap.size]? = some (.stringIter s 0) := World.iter_heap w s 0
 have hz1 : (w.iter s 0).heap.size = w.heap.size + 1 := by show (w.alloc _).heap.size = _; rw [World.size_alloc]
 have hb1 : Below w.heap.size w (w.iter s 0) := below_new0 w _
 have HW := Lib.hid hW
 have HB1 := Lib.hid hb1
 clear hW hb1
 go_enter Tryz.func47, Tryz.ntmps47
 go_wp2_with fail
 go_loopg [3] (s.size + 1) (fun g s3 wr => ∃ (pos f : Nat) (P : List Nat), wr.heap[w.heap.size]? = some (.stringIter s pos) ∧ nS.own 3 (fun _ => False) (w.heap.size + 1) wr s3 P ∧ P ++ rst s f pos = rst s s.size 0 ∧ s.size ≤ pos + f ∧ s.size < pos + g ∧ P.length ≤ pos ∧ P.length ≤ s.size ∧ w.heap.size + 1 ≤ wr.heap.size ∧ Below w.heap.size w wr)
 case atStart => exact ⟨0, s.size, [], HW.out, Shp.own.nil, rfl, by omega, by omega, Nat.le_refl _, Nat.zero_le _, by rw [hz1]; exact Nat.le_refl _, HB1.out⟩
 case round =>
  obtain ⟨pos, f, P, hit, hown, hP, hf, hg, hPl, hPs, hzw, hb⟩ := hrel
  have HP := Lib.hid hP
  have HB := Lib.hid hb
  have hlenP : nS.len P = P.length := rfl
  by_cases hp : pos < s.size
  ·have hnx := fun ty => Lib.run_next_any_at (P := Tryz.prog) wr w.heap.size s pos ty hit hp
   have hwd := width_pos s pos hp
   obtain ⟨f, rfl⟩ : ∃ k, f = k + 1 := ⟨f - 1, by omega⟩
   rw [rst_step s f pos hp] at hP
   generalize (Utf8.decode s pos).1 = rn at hnx
   generalize hwdd : (Utf8.decode s pos).2 = wd at hnx hwd hP
   have hit2 := Lib.iterAt_heap wr w.heap.size s pos (pos + wd) hit
   have hown2 := own_iter hown (Nat.lt_succ_self _) s (pos + wd)
   have hz2 := Lib.iterAt_size wr w.heap.size s (pos + wd)
   have hb2 := Lib.below_iterAt hb (Nat.le_refl _) s (pos + wd)
   obtain ⟨W, hWW⟩ : ∃ W, wr.iterAt w.heap.size s (pos + wd) = W := ⟨_, rfl⟩
   simp only [hWW] at hnx
   rw [hWW] at hit2 hown2 hz2 hb2
   have hoA := hown2.below (below_new0 W (.cells #[.int .i64 (pos : Int)] 3))
   have HOA := Lib.hid hoA
   have HB2 := Lib.hid hb2
   have HIT2 := Lib.hid hit2
   have hPn : (P ++ [pos]) ++ rst s f (pos + wd) = rst s s.size 0 := by rw [← hP]; simp
   have HPN := Lib.hid hPn
   have hPl2 : (P ++ [pos]).length ≤ s.size := by
    have h1 := rst_len s s.size 0
    rw [← hPn, List.length_append] at h1
    omega
   have HPL2 := Lib.hid hPl2
   have hzW : w.heap.size + 1 ≤ (W.alloc (.cells #[.int .i64 (pos : Int)] 3)).heap.size := by rw [World.size_alloc]; omega
   have HZ2 := Lib.hid hz2
   clear hit hown hP hoA hb2 hit2 hPn hWW hwdd hown2 hPl2 hb hz2
   go_wp2_with (at_builtin; go_must (refine append_shp nS tyN _ rfl _ _ rfl HOA.out rfl (src_n (n := pos)) rfl (by rw [hlenP]; show (P.length + 1) * 9 ≤ _; omega) hzW ?_); intro v' w4 O4 hgrow hbel hkd)
   have hlt := HOA.out.lt
   have hbn : Below w.heap.size w w4 := (below_then HB2.out (below_new0 _ _)).grown hgrow (Nat.le_of_succ_le hzW) (fun k hk => Nat.le_of_succ_le (hlt k hk).1)
   have hit4 : w4.heap[w.heap.size]? = some (.stringIter s (pos + wd)) := by
    have hz2 := HZ2.out
    rw [hgrow.block w.heap.size (by rw [World.size_alloc]; omega) (fun e => by have := (hlt _ e.symm).1; omega), Below.heap_alloc W _ _ (by omega)]
    exact HIT2.out
   have hz4 : w.heap.size + 1 ≤ w4.heap.size := by have := hgrow.size; omega
   clear hgrow hbel hkd hlt
   go_roundg (s.size - pos)
   case measure => omega
   case rel => exact ⟨pos + wd, f, P ++ [pos], hit4, O4, HPN.out, by omega, by omega, by rw [List.length_append]; show P.length + 1 ≤ _; omega, HPL2.out, hz4, hbn⟩
  ·have hnx := fun ty => Lib.run_next_end_at (P := Tryz.prog) wr w.heap.size s pos ty hit hp
   rw [rst_end s f pos hp, List.append_nil] at hP
   have hst : P ++ [s.size] = stL s := by rw [hP]; rfl
   have HST := Lib.hid hst
   have hoA := hown.below (below_new0 wr (.cells #[.int .i64 (s.size : Int)] 3))
   have HOA := Lib.hid hoA
   have hzW : w.heap.size + 1 ≤ (wr.alloc (.cells #[.int .i64 (s.size : Int)] 3)).heap.size := by rw [World.size_alloc]; omega
   clear hP hst hown hoA hb
   go_wp2_with (at_builtin; go_must (refine append_shp nS tyN _ rfl _ _ rfl HOA.out rfl (src_n (n := s.size)) rfl (by rw [hlenP]; show (P.length + 1) * 9 ≤ _; omega) hzW ?_); intro v' w4 O4 hgrow hbel hkd)
   have hlt := HOA.out.lt
   have hbn : Below w.heap.size w w4 := (below_then HB.out (below_new0 _ _)).grown hgrow (Nat.le_of_succ_le hzW) (fun k hk => Nat.le_of_succ_le (hlt k hk).1)
   have O5 : nS.own 3 (fun _ => False) (w.heap.size + 1) w4 v' (P ++ [s.size]) := O4
   obtain ⟨p', c', hvv⟩ := O5.form
   replace hvv : v' = .slice p' (P ++ [s.size]).length c' := hvv
   have h4 := O5.sl
   rw [hvv] at h4
   have h5 := NSL.of_sl h4
   subst hvv
   have H5 := Lib.hid h5
   clear hgrow hbel hkd O4 O5 h4 h5
   go_wp2_with fail
   go_ret
   exact ⟨p', c', by rw [← HST.out]; rfl, by rw [← HST.out]; exact H5.out, hbn⟩

set_option maxHeartbeats 1000000 in
theorem rlength_any (s : ByteArray) (w : World) (hs : s.size ≤ 100000000) : Calls Tryz.prog 21 #[.string s] w fun e w' => e = .returned (.int .i64 (nR s : Nat)) ∧ Below w.heap.size w w' := by
 have hC := rstarts_any s w hs
 have hn := stL_nR s
 rw [hn] at hC
 have hle := nR_le s
 clear hn
 go_enter Tryz.func21, Tryz.ntmps21
 go_wp2_with fail
 refine hC.mono ?_
 rintro e w1 ⟨p, c, rfl, -, hb⟩
 go_wp2_with fail
 go_ret
 exact ⟨by simp, hb⟩

theorem ws4_eq (c : UInt8) : ws4 c = (decide (c.toNat = 9) || decide (c.toNat = 10) || decide (c.toNat = 13) || decide (c.toNat = 32)) := by
 have a1 : c = 9 ↔ c.toNat = 9 := u8_eq (by decide)
 have a2 : c = 10 ↔ c.toNat = 10 := u8_eq (by decide)
 have a3 : c = 13 ↔ c.toNat = 13 := u8_eq (by decide)
 have a4 : c = 32 ↔ c.toNat = 32 := u8_eq (by decide)
 unfold ws4
 rw [Bool.eq_iff_iff]
 simp [a1, a2, a3, a4]

set_option maxRecDepth 10000 in
theorem rspace_any (c : UInt8) (w : World) : Calls Tryz.prog 46 #[.int .u8 (c.toNat : Int)] w fun e w' => e = .returned (.bool (ws4 c)) ∧ w = w' := by
 rw [ws4_eq]
 have hx8 := c.toNat_lt
 generalize c.toNat = x at *
 go_enter Tryz.func46, Tryz.ntmps46
 by_cases h1 : x = 9
 ·have g1 : ((x : Int) == 9) = true := by simp; omega
  have HR : Hid (true = (decide (x = 9) || decide (x = 10) || decide (x = 13) || decide (x = 32))) := Lib.hid (by simp [h1])
  clear h1
  go_wp2_with fail
  go_ret
  exact ⟨ret_bool HR.out, rfl⟩
 have g1 : ((x : Int) == 9) = false := by simp; omega
 by_cases h2 : x = 10
 ·have g2 : ((x : Int) == 10) = true := by simp; omega
  have HR : Hid (true = (decide (x = 9) || decide (x = 10) || decide (x = 13) || decide (x = 32))) := Lib.hid (by simp [h2])
  clear h1 h2
  go_wp2_with fail
  go_ret
  exact ⟨ret_bool HR.out, rfl⟩
 have g2 : ((x : Int) == 10) = false := by simp; omega
 by_cases h3 : x = 13
 ·have g3 : ((x : Int) == 13) = true := by simp; omega
  have HR : Hid (true = (decide (x = 9) || decide (x = 10) || decide (x = 13) || decide (x = 32))) := Lib.hid (by simp [h3])
  clear h1 h2 h3
  go_wp2_with fail
  go_ret
  exact ⟨ret_bool HR.out, rfl⟩
 have g3 : ((x : Int) == 13) = false := by simp; omega
 have hr : ((x : Int) == 32) = (decide (x = 9) || decide (x = 10) || decide (x = 13) || decide (x = 32)) := by
  rw [Bool.eq_iff_iff]; simp [h1, h2, h3]; omega
 have HR := Lib.hid hr
 clear h1 h2 h3 hr
 go_wp2_with fail
 go_ret
 exact ⟨ret_bool HR.out, rfl⟩

theorem last_snoc (X : ByteArray) (m : Nat) (h : X.size = m + 1) : X.data.toList = (X.extract 0 m).data.toList ++ [X[m]'(by omega)] := by
 have hz : X.data.toList.length = X.size := by simp
 have h1 := one_data X m (by omega)
 rw [Lib.extract_from_zero]
 have e := List.take_append_drop m X.data.toList
 have h2 := drop_byte X m (by omega)
 rw [List.drop_eq_nil_of_le (show X.data.toList.length ≤ m + 1 by omega)] at h2
 rw [h2] at e
 exact e.symm

set_option maxRecDepth 10000 in
set_option maxHeartbeats 1000000 in
theorem rtrim_any (s : ByteArray) (w : World) (hs : s.size ≤ 100000000) : Calls Tryz.prog 19 #[.string s] w fun e w' => e = .returned (.string ⟨(trimW ws4 s.data.toList).toArray⟩) ∧ w = w' := by
 obtain ⟨l, hl⟩ : ∃ l, l = s.data.toList := ⟨_, rfl⟩
 rw [← hl]
 have htr : trimW ws4 l = ((l.dropWhile ws4).reverse.dropWhile ws4).reverse := rfl
 have HTR := Lib.hid htr
 have HL := Lib.hid hl
 clear hl htr
 go_enter Tryz.func19, Tryz.ntmps19
 go_wp2_with fail
 go_loopg [0] (s.size + 1) (fun g s0 wr => ∃ X : ByteArray, X.size < g ∧ X.size ≤ s.size ∧ s0 = .string X ∧ X.data.toList.dropWhile ws4 = l.dropWhile ws4 ∧ w = wr)
 case atStart => exact ⟨s, by omega, by omega, rfl, by rw [HL.out], rfl⟩
 case round =>
  obtain ⟨X, hXg, hXs, rfl, hq, rfl⟩ := hrel
  have HQ := Lib.hid hq
  clear hq
  obtain ⟨b, hb⟩ : ∃ b, b = (if h : 0 < X.size then ws4 X[0] else false) := ⟨_, rfl⟩
  have HB := Lib.hid hb
  clear hb
  go_upto_region 1 with fail
  go_cut [10] from 3 to 10 (fun s10 wc => s10 = .bool b ∧ w = wc)
  case first =>
   by_cases h0 : 0 < X.size
   ·have g0 : decide (0 < X.size) = true := decide_eq_true h0
    have hb := HB.out
    rw [dif_pos h0] at hb
    have hS := fun W => rspace_any X[0] W
    rw [← hb] at hS
    have HS := Lib.hid hS
    clear hS hb
    go_wp2_with fail
    refine (HS.out _).mono ?_
    rintro e w1 ⟨rfl, rfl⟩
    go_wp2_with fail
    go_meet
    case rel => exact ⟨rfl, rfl⟩
   ·have g0 : decide (0 < X.size) = false := decide_eq_false h0
    have hb := HB.out
    rw [dif_neg h0] at hb
    subst hb
    go_wp2_with fail
    go_meet
    case rel => exact ⟨rfl, rfl⟩
  case rest =>
   obtain ⟨rfl, rfl⟩ := hcut
   cases b with
   | true =>
     have h0 : 0 < X.size := by
      have := HB.out
      by_cases h : 0 < X.size
      ·exact h
      ·rw [dif_neg h] at this; cases this
     have hw : ws4 X[0] = true := by have := HB.out; rw [dif_pos h0] at this; exact this.symm
     have hnx : (X.extract 1 X.size).data.toList.dropWhile ws4 = l.dropWhile ws4 := by rw [← HQ.out, first_cons X h0, List.dropWhile_cons, hw]; rfl
     have hnz : (X.extract 1 X.size).size = X.size - 1 := by rw [ByteArray.size_extract]; omega
     have HN := Lib.hid hnx
     have HNZ := Lib.hid hnz
     clear hw hnx hnz
     go_wp2_with fail
     go_roundg (X.size)
     case measure => omega
     case rel => exact ⟨X.extract 1 X.size, by rw [HNZ.out]; omega, by rw [HNZ.out]; omega, rfl, HN.out, rfl⟩
   | false =>
     have hnw : X.data.toList.dropWhile ws4 = X.data.toList := by
      by_cases h : 0 < X.size
      ·have := HB.out
       rw [dif_pos h] at this
       rw [first_cons X h, List.dropWhile_cons, ← this]; rfl
      ·have : X.data.toList = [] := List.length_eq_zero_iff.1 (by have : X.data.toList.length = X.size := (by simp); omega)
       rw [this]; rfl
     have hx : trimW ws4 l = (X.data.toList.reverse.dropWhile ws4).reverse := by rw [HTR.out, ← HQ.out, hnw]
     have HX := Lib.hid hx
     clear hnw hx HQ HB
     go_wp2_with fail
     go_loopg [0] (X.size + 1) (fun g s0 wr => ∃ Y : ByteArray, Y.size < g ∧ Y.size ≤ s.size ∧ s0 = .string Y ∧ (Y.data.toList.reverse.dropWhile ws4).reverse = trimW ws4 l ∧ w = wr)
     case atStart => exact ⟨X, by omega, hXs, rfl, HX.out.symm, rfl⟩
     case round =>
      obtain ⟨Y, hYg, hYs, rfl, hq, rfl⟩ := hrel
      have HQ := Lib.hid hq
      clear hq HX
      obtain ⟨b, hb⟩ : ∃ b, b = (if h : 0 < Y.size then ws4 (Y[Y.size - 1]'(by omega)) else false) := ⟨_, rfl⟩
      have HB := Lib.hid hb
      clear hb
      go_upto_region 3 with fail
      go_cut [23] from 13 to 23 (fun s23 wc => s23 = .bool b ∧ w = wc)
      case first =>
       by_cases h0 : 0 < Y.size
       ·have g0 : decide (0 < Y.size) = true := decide_eq_true h0
        have hb := HB.out
        rw [dif_pos h0] at hb
        have hS := fun W => rspace_any (Y[Y.size - 1]'(by omega)) W
        rw [← hb] at hS
        have HS := Lib.hid hS
        clear hS hb
        go_wp2_with fail
        refine (HS.out _).mono ?_
        rintro e w1 ⟨rfl, rfl⟩
        go_wp2_with fail
        go_meet
        case rel => exact ⟨rfl, rfl⟩
       ·have g0 : decide (0 < Y.size) = false := decide_eq_false h0
        have hb := HB.out
        rw [dif_neg h0] at hb
        subst hb
        go_wp2_with fail
        go_meet
        case rel => exact ⟨rfl, rfl⟩
      case rest =>
       obtain ⟨rfl, rfl⟩ := hcut
       cases b with
       | true =>
         have h0 : 0 < Y.size := by
          have := HB.out
          by_cases h : 0 < Y.size
          ·exact h
          ·rw [dif_neg h] at this; cases this
         have hw : ws4 (Y[Y.size - 1]'(by omega)) = true := by have := HB.out; rw [dif_pos h0] at this; exact this.symm
         have hnx : ((Y.extract 0 (Y.size - 1)).data.toList.reverse.dropWhile ws4).reverse = trimW ws4 l := by
          rw [← HQ.out, last_snoc Y (Y.size - 1) (by omega), List.reverse_append, List.reverse_singleton, List.singleton_append, List.dropWhile_cons, hw]; rfl
         have hnz : (Y.extract 0 (Y.size - 1)).size = Y.size - 1 := by rw [ByteArray.size_extract]; omega
         have HN := Lib.hid hnx
         have HNZ := Lib.hid hnz
         clear hw hnx hnz
         go_wp2_with fail
         go_roundg (Y.size)
         case measure => omega
         case rel => exact ⟨Y.extract 0 (Y.size - 1), by rw [HNZ.out]; omega, by rw [HNZ.out]; omega, rfl, HN.out, rfl⟩
       | false =>
         have hr : Y = ⟨(trimW ws4 l).toArray⟩ := bytes_ext (by
          rw [data_mk, ← HQ.out]
          by_cases h : 0 < Y.size
          ·have := HB.out
           rw [dif_pos h] at this
           have e := last_snoc Y (Y.size - 1) (by omega)
           have e2 : Y.data.toList.reverse.dropWhile ws4 = Y.data.toList.reverse := by
            rw [e, List.reverse_append, List.reverse_singleton, List.singleton_append, List.dropWhile_cons, ← this]; rfl
           rw [e2, List.reverse_reverse]
          ·have : Y.data.toList = [] := List.length_eq_zero_iff.1 (by have : Y.data.toList.length = Y.size := (by simp); omega)
           rw [this]; rfl)
         have HR := Lib.hid hr
         clear hr HQ HB
         go_wp2_with fail
         go_ret
         exact ⟨congrArg (fun x => Ending.returned (Value.string x)) HR.out, rfl⟩

set_option maxHeartbeats 1000000 in
theorem rchange_any (c : UInt8) (u : Bool) (w : World) : Calls Tryz.prog 107 #[.int .u8 (c.toNat : Int), .bool u] w fun e w' => e = .returned (.int .u8 ((chC u c).toNat : Int)) ∧ w = w' := by
 rw [chC_nat]
 have hx8 := c.toNat_lt
 generalize c.toNat = x at *
 obtain ⟨y, hy⟩ : ∃ y, y = chN u x := ⟨_, rfl⟩
 rw [← hy]
 unfold chN at hy
 cases u with
 | true =>
   rw [if_pos rfl] at hy
   by_cases h1 : 97 ≤ x
   ·have g1 : decide ((97 : Int) ≤ (x : Int)) = true := by simp; omega
    by_cases h2 : x ≤ 122
    ·have g2 : decide ((x : Int) ≤ 122) = true := by simp; omega
     rw [if_pos ⟨h1, h2⟩] at hy
     have e1 : (x : Int) - 32 = (y : Int) := by omega
     clear hy h1 h2
     go_enter Tryz.func107, Tryz.ntmps107
     go_wp2_with fail
     go_ret
     exact ⟨rfl, rfl⟩
    ·have g2 : decide ((x : Int) ≤ 122) = false := by simp; omega
     rw [if_neg (fun h => h2 h.2)] at hy
     subst hy
     clear h1 h2
     go_enter Tryz.func107, Tryz.ntmps107
     go_wp2_with fail
     go_ret
     exact ⟨rfl, rfl⟩
   ·have g1 : decide ((97 : Int) ≤ (x : Int)) = false := by simp; omega
    rw [if_neg (fun h => h1 h.1)] at hy
    subst hy
    clear h1
    go_enter Tryz.func107, Tryz.ntmps107
    go_wp2_with fail
    go_ret
    exact ⟨rfl, rfl⟩
 | false =>
   rw [if_neg (by decide)] at hy
   by_cases h1 : 65 ≤ x
   ·have g1 : decide ((65 : Int) ≤ (x : Int)) = true := by simp; omega
    by_cases h2 : x ≤ 90
    ·have g2 : decide ((x : Int) ≤ 90) = true := by simp; omega
     rw [if_pos ⟨h1, h2⟩] at hy
     have e1 : (x : Int) + 32 = (y : Int) := by omega
     have e2 : (y : Int) % 256 = (y : Int) := by omega
     clear hy h1 h2
     go_enter Tryz.func107, Tryz.ntmps107
     go_wp2_with fail
     go_ret
     exact ⟨rfl, rfl⟩
    ·have g2 : decide ((x : Int) ≤ 90) = false := by simp; omega
     rw [if_neg (fun h => h2 h.2)] at hy
     subst hy
     clear h1 h2
     go_enter Tryz.func107, Tryz.ntmps107
     go_wp2_with fail
     go_ret
     exact ⟨rfl, rfl⟩
   ·have g1 : decide ((65 : Int) ≤ (x : Int)) = false := by simp; omega
    rw [if_neg (fun h => h1 h.1)] at hy
    subst hy
    clear h1
    go_enter Tryz.func107, Tryz.ntmps107
    go_wp2_with fail
    go_ret
    exact ⟨rfl, rfl⟩

theorem casL_past {u : Bool} : ∀ (n : Nat) (l : List UInt8), l.length ≤ n → casL u n l = l.map (chC u)
 | 0, [], _ => rfl
 | _ + 1, [], _ => rfl
 | n + 1, c :: r, h => by rw [casL, List.map_cons, casL_past n r (by simpa using h)]

theorem casL_same {u : Bool} {n m : Nat} {l : List UInt8} (hn : l.length ≤ n) (hm : l.length ≤ m) : casL u n l = casL u m l := by rw [casL_past n l hn, casL_past m l hm]

set_option maxRecDepth 10000 in
set_option maxHeartbeats 2000000 in
theorem rcased_any (s : ByteArray) (n : Nat) (u : Bool) (w : World) (hs : s.size ≤ 100000000) (hn : n ≤ 100000000) : Calls Tryz.prog 48 #[.string s, .int .i64 (n : Int), .bool u] w fun e w' => e = .returned (.string ⟨(casL u n s.data.toList).toArray⟩) ∧ Below w.heap.size w w' := by
 obtain ⟨cap, C, hc1, hc2, hcv, hB, hbl⟩ := conv_to w s (by unfold maxLen; omega)
 have hz : s.data.toList.length = s.size := by simp
 obtain ⟨l, hl⟩ : ∃ l, l = s.data.toList := ⟨_, rfl⟩
 rw [← hl] at hB hz ⊢
 obtain ⟨N, hN⟩ : ∃ N, N = s.size := ⟨_, rfl⟩
 rw [← hN] at hcv hc1 hz hs
 have hc3 : cap ≤ 9223372036854775807 := by unfold maxLen at hc2; omega
 have hback := fun k W h => @conv_from W w.heap.size (casL u k l) h N cap (by rw [casL_len]; exact hz.symm)
 have HBK := Lib.hid hback
 have HB := Lib.hid hB
 have HBL := Lib.hid hbl
 have HZ := Lib.hid hz
 clear hback hB hbl hl hN hc2 hz
 go_enter Tryz.func48, Tryz.ntmps48
 go_wp2_with fail
 go_loopg [8] (N + 1) (fun g s8 wr => ∃ k : Nat, k ≤ N ∧ k ≤ n ∧ N < k + g ∧ s8 = .int .i64 k ∧ BIn wr w.heap.size (casL u k l) ∧ Below w.heap.size w wr)
 case atStart => exact ⟨0, by omega, by omega, by omega, rfl, HB.out, HBL.out⟩
 case round =>
  obtain ⟨k, hkN, hkn, hg, rfl, hb, hbw⟩ := hrel
  have HBN := Lib.hid hb
  have HBW := Lib.hid hbw
  have hgb := hb.1
  clear hb hbw
  by_cases h1 : k < N
  ·have g1 : decide (k < N) = true := decide_eq_true h1
   by_cases h2 : k < n
   ·have g2 : decide (k < n) = true := decide_eq_true h2
    have hkl : k < l.length := by rw [HZ.out]; exact h1
    have hkl2 : k < (casL u k l).length := by rw [casL_len]; exact hkl
    have hat := HBN.out.2 k hkl2
    have he : (casL u k l)[k]'hkl2 = l[k] := by
     have := casL_at (u := u) k l
     rw [List.getElem?_eq_getElem hkl2, List.getElem?_eq_getElem hkl] at this
     exact Option.some.inj this
    rw [he] at hat
    obtain ⟨hc, hf⟩ := hat
    have hput := HBN.out.put hkl2 (chC u l[k])
    rw [casL_step k l l[k] (List.getElem?_eq_getElem hkl)] at hput
    have HPUT := Lib.hid hput
    have hC := fun W => rchange_any l[k] u W
    have HC := Lib.hid hC
    clear hC hput he hkl2
    go_wp2_with fail
    refine (HC.out _).mono ?_
    rintro e w1 ⟨rfl, rfl⟩
    go_wp2_with fail
    go_roundg (N - k)
    case measure => omega
    case rel => exact ⟨k + 1, by omega, by omega, by omega, by go_num, HPUT.out, HBW.out.setCell (Nat.le_refl _) _⟩
   ·have g2 : decide (k < n) = false := decide_eq_false h2
    have hcb := HBK.out k wr HBN.out
    have hkn2 : k = n := by omega
    subst hkn2
    go_wp2_with fail
    go_ret
    exact ⟨rfl, HBW.out⟩
  ·have g1 : decide (k < N) = false := decide_eq_false h1
   have hcb := HBK.out k wr HBN.out
   have he : casL u k l = casL u n l := casL_same (by rw [HZ.out]; omega) (by rw [HZ.out]; omega)
   have HE := Lib.hid he
   clear he
   go_wp2_with fail
   go_ret
   exact ⟨by rw [HE.out]; rfl, HBW.out⟩

set_option maxHeartbeats 1000000 in
theorem rupper_any (s : ByteArray) (w : World) (hs : s.size ≤ 100000000) : Calls Tryz.prog 22 #[.string s] w fun e w' => e = .returned (.string (casS true s)) ∧ Below w.heap.size w w' := by
 have hC := rcased_any s s.size true w hs (by omega)
 have HC := Lib.hid hC
 clear hC
 go_enter Tryz.func22, Tryz.ntmps22
 go_wp2_with fail
 refine HC.out.mono ?_
 rintro e w1 ⟨rfl, hb⟩
 go_wp2_with fail
 go_ret
 exact ⟨rfl, hb⟩

theorem fstE_eq {e z : Int} (h : e = 0) : fstE e z = z := by unfold fstE; rw [if_pos h]

theorem call_made {N : ByteArray} {l : List ByteArray} {S : ByteArray} {z : Int} (h : CallP N l S z) (hl : l.length ≤ 1000) (h0 : l ≠ []) (W : World) (he : Env W) :
  Calls Tryz.prog 11 #[.string N, .slice (some ⟨W.heap.size, 0, none⟩) l.length l.length] (W.alloc (.cells (tcs l).toArray 9)) fun E w' => E = .returned (.tuple #[.string S, .int .i64 z]) ∧ Below W.heap.size W w' :=
 (h _ _ _ (SL.made W 9 l hl h0) (he.below (below_new0 _ _))).mono fun E w' ⟨a, b⟩ => ⟨a, below_then (below_new0 _ _) b⟩

theorem decD_ws (n : Nat) : ∀ c ∈ Lib.decDigits n, ws4 c = false := fun c hc => by
 have h := Num.isD_iff.1 ((decD_all n).1 c hc)
 rw [ws4_eq]
 simp only [Bool.or_eq_false_iff, decide_eq_false_iff_not]
 omega

theorem dw_none {p : UInt8 → Bool} {l : List UInt8} (h : ∀ c ∈ l, p c = false) : l.dropWhile p = l := by
 cases l with
 | nil => rfl
 | cons c r => exact List.dropWhile_cons_of_neg (by rw [h c List.mem_cons_self]; simp)

theorem trim_dec (n : Nat) : trimW ws4 (Lib.decDigits n) = Lib.decDigits n := by
 unfold trimW
 rw [dw_none (decD_ws n), dw_none (fun c hc => decD_ws n c (List.mem_reverse.1 hc)), List.reverse_reverse]

theorem star_len (d : Nat) : (padP ⟨#[42]⟩ d).length = d := by
 have h1 : nR ⟨#[42]⟩ = 1 := by decide +kernel
 unfold padP
 rw [h1, Nat.div_one, Nat.mod_one, stL_zero, List.take_zero, List.append_nil, repeatL_len]
 simp

theorem ext_join (t : ByteArray) (x : Nat) (h : x ≤ t.size) : t.extract 0 x ++ t.extract x t.size = t := by
 apply bytes_ext
 have hz : t.data.toList.length = t.size := by simp
 rw [app_data, ext_data, ext_data, List.drop_zero, show t.data.toList.take t.size = t.data.toList from List.take_of_length_le (by omega), List.take_append_drop]

theorem slc_join (t : ByteArray) (k : Nat) (ht : t.size ≤ 1000) : slcS t 0 k ++ slcS t k 32768 = t := by
 have hN := nR_le t
 have e0 : slF (nR t) 0 = 0 := by unfold slF; split <;> omega
 have e1 : slT (nR t) 0 k = min k (nR t) := by unfold slT; rw [if_pos (by omega)]; omega
 have e2 : slF (nR t) k = min k (nR t) := by unfold slF; rw [if_neg (by omega)]; omega
 have e3 : slT (nR t) (min k (nR t)) 32768 = nR t := by unfold slT; rw [if_pos (by omega)]; omega
 unfold slcS
 rw [e0, e1, e2, e3, stL_zero, stL_end]
 exact ext_join t _ (stL_size t (by omega))

set_option maxRecDepth 10000 in
set_option maxHeartbeats 4000000 in
theorem law_counts (s : ByteArray) (a : Int) (w : World) (hs : s.size ≤ 9223372036854775807) (he : Env w) :
  Calls Tryz.prog 7 #[.string s, .int .i64 a] w fun e w' => e = .returned (.bool true) ∧ Below w.heap.size w w' := by
 have hK := fun W (hb : Below w.heap.size w W) => known11_any W (he.below hb)
 have HK := Lib.hid hK
 by_cases h1 : 200 < s.size
 ·have g1 : decide (200 < s.size) = true := decide_eq_true h1
  clear hK he
  go_enter Tryz.func7, Tryz.ntmps7
  go_wp2_with fail
  refine (HK.out _ (Below.refl _ _)).mono ?_
  rintro E w1 ⟨rfl, hb1⟩
  go_wp2_with fail
  go_ret
  exact ⟨rfl, hb1⟩
 ·have g1 : decide (200 < s.size) = false := decide_eq_false h1
  have hB : bits BinOp.and IntKind.i64 a 63 = a % 64 := mask_i64 6 (by omega) a 63 (by decide)
  obtain ⟨k, hk⟩ : ∃ k : Nat, a % 64 = (k : Int) := ⟨(a % 64).toNat, by omega⟩
  have hk2 : k < 64 := by omega
  obtain ⟨D, hD⟩ : ∃ D : ByteArray, D = ⟨(Lib.decDigits k).toArray⟩ := ⟨_, rfl⟩
  have hDs : D.size ≤ 9 := by rw [hD, Lib.size_mk]; exact decD_len k (by omega)
  have hDD := fun W => decimal_any (k : Int) W (by omega) (by omega)
  rw [itoa_nat, ← hD] at hDD
  obtain ⟨t, ht⟩ : ∃ t : ByteArray, t = ⟨(trimW ws4 s.data.toList).toArray⟩ := ⟨_, rfl⟩
  have hsl : s.data.toList.length = s.size := by simp
  have htl : t.size ≤ 200 := by rw [ht, Lib.size_mk]; have := trimW_len ws4 s.data.toList; omega
  have hT := fun W => rtrim_any s W (by omega)
  rw [← ht] at hT
  have hdt : (⟨(trimW ws4 D.data.toList).toArray⟩ : ByteArray) = D := by rw [hD]; exact bytes_ext (trim_dec k)
  have h64 : I64 (k : Int) := by unfold I64; omega
  have hI0 : I64 0 := by unfold I64; omega
  have hI2 : I64 32768 := by unfold I64; omega
  have hs0 : (⟨#[48]⟩ : ByteArray).size ≤ 310 := by decide
  have hst : (⟨#[42]⟩ : ByteArray).size ≤ 310 := by decide
  have sml3 : ∀ x y : ByteArray, x.size ≤ 310 → y.size ≤ 310 → Sml [s, x, y] := fun x y hx hy => ⟨by simp, fun z hz => by
   simp only [List.mem_cons, List.not_mem_nil, or_false] at hz
   rcases hz with rfl | rfl | rfl <;> omega⟩
  have sml2 : Sml [s, D] := ⟨by simp, fun z hz => by
   simp only [List.mem_cons, List.not_mem_nil, or_false] at hz
   rcases hz with rfl | rfl <;> omega⟩
  have sml1 : Sml [s] := ⟨by simp, fun z hz => by
   simp only [List.mem_cons, List.not_mem_nil, or_false] at hz
   subst hz; omega⟩
  have a0 : ∀ l, argV (s :: l) 0 = t := fun l => ht.symm
  have cP := call_any [s, D, ⟨#[42]⟩] (sml3 _ _ (by omega) hst) (by simp) (.text ⟨#[112, 97, 100, 108, 101, 102, 116]⟩ _ _ (idxN_mem _ nms 0 (by decide +kernel)) (not_in _ _ (by decide +kernel))
   (text_padleft1 [s, D, ⟨#[42]⟩] (sml3 _ _ (by omega) hst) k 0 (intP_dec [s, D, ⟨#[42]⟩] 1 k 0 (by omega) (sml3 _ _ (by omega) hst) (by omega) (by rw [← hD]; exact hdt)) h64 (show 0 < (⟨#[42]⟩ : ByteArray).size by decide)))
  rw [a0, show rawV [s, D, ⟨#[42]⟩] 2 = ⟨#[42]⟩ from rfl, fstE_eq rfl] at cP
  have hql : (padQ t k ⟨#[42]⟩).length = (max 0 ((k : Int) - nR t)).toNat := by
   unfold padQ
   split
   ·rename_i h
    rcases h with h | h
    ·exact absurd h (by decide)
    ·rw [List.length_nil]; omega
   ·rw [star_len]; omega
  have hpv : padV true t k ⟨#[42]⟩ = (⟨(padQ t k ⟨#[42]⟩).toArray⟩ ++ t, 0) := by
   unfold padV
   rw [if_pos (by omega), if_pos rfl]
  rw [hpv] at cP
  have cP : CallP ⟨#[112, 97, 100, 108, 101, 102, 116]⟩ [s, D, ⟨#[42]⟩] (⟨(padQ t k ⟨#[42]⟩).toArray⟩ ++ t) 0 := cP
  obtain ⟨P, hP⟩ : ∃ P : ByteArray, P = ⟨(padQ t k ⟨#[42]⟩).toArray⟩ ++ t := ⟨_, rfl⟩
  have hPs : (P.size : Int) = t.size + max 0 ((k : Int) - nR t) := by rw [hP, ByteArray.size_append, Lib.size_mk, hql]; omega
  rw [← hP] at cP
  have cA := call_sub_dec [s, ⟨#[48]⟩, D] (sml3 _ _ hs0 (by omega)) (by simp) 0 k hI0 h64 (intP_dec [s, ⟨#[48]⟩, D] 1 0 0 (by omega) (sml3 _ _ hs0 (by omega)) (by omega) (bytes_ext (by show trimW ws4 [48] = Lib.decDigits 0; decide +kernel)))
   (intP_dec [s, ⟨#[48]⟩, D] 2 k 32768 (by omega) (sml3 _ _ hs0 (by omega)) (by omega) (by rw [← hD]; exact hdt))
  have cB := call_sub_dec [s, D] sml2 (by simp) k 32768 h64 hI2 (intP_dec [s, D] 1 k 0 (by omega) sml2 (by omega) (by rw [← hD]; exact hdt)) (intP_empty [s, D] 2 32768 (by omega) sml2 (show (⟨(trimW ws4 (⟨#[]⟩ : ByteArray).data.toList).toArray⟩ : ByteArray).size = 0 by decide +kernel))
  rw [a0] at cA cB
  have hAB := slc_join t k (by omega)
  have cL := call_any [s] sml1 (by simp) (.text ⟨#[108, 101, 110]⟩ _ _ (idxN_mem _ nms 0 (by decide +kernel)) (not_in _ _ (by decide +kernel)) (text_len [s] sml1))
  have cU := call_any [s] sml1 (by simp) (.text ⟨#[117, 99]⟩ _ _ (idxN_mem _ nms 0 (by decide +kernel)) (not_in _ _ (by decide +kernel)) (text_uc [s] sml1))
  rw [a0, outS_ok rfl] at cL cU
  have hnr := nR_le t
  have hLn := fun W => rlength_any t W (by omega)
  have hDn := fun W => decimal_any ((nR t : Nat) : Int) W (by omega) (by omega)
  have hUp := fun W => rupper_any t W (by omega)
  obtain ⟨A, hA⟩ : ∃ A, A = slcS t 0 k := ⟨_, rfl⟩
  obtain ⟨B, hB2⟩ : ∃ B, B = slcS t k 32768 := ⟨_, rfl⟩
  rw [← hA] at cA hAB
  rw [← hB2] at cB hAB
  have hAz := congrArg ByteArray.size hAB
  rw [ByteArray.size_append] at hAz
  obtain ⟨U, hU⟩ : ∃ U, U = casS true t := ⟨_, rfl⟩
  rw [← hU] at cU hUp
  obtain ⟨L, hL⟩ : ∃ L : ByteArray, L = ⟨(Lib.itoa ((nR t : Nat) : Int)).toArray⟩ := ⟨_, rfl⟩
  rw [← hL] at cL hDn
  obtain ⟨r, hr⟩ : ∃ r, r = nR t := ⟨_, rfl⟩
  rw [← hr] at hnr hLn hDn hPs
  have mP := fun W (h : Env W) => call_made cP (by simp) (by simp) W h
  have mA := fun W (h : Env W) => call_made cA (by simp) (by simp) W h
  have mB := fun W (h : Env W) => call_made cB (by simp) (by simp) W h
  have mL := fun W (h : Env W) => call_made cL (by simp) (by simp) W h
  have mU := fun W (h : Env W) => call_made cU (by simp) (by simp) W h
  have HMP := Lib.hid mP
  have HMA := Lib.hid mA
  have HMB := Lib.hid mB
  have HML := Lib.hid mL
  have HMU := Lib.hid mU
  have HE := Lib.hid he
  have HT := Lib.hid hT
  have HDD := Lib.hid hDD
  have HLN := Lib.hid hLn
  have HDN := Lib.hid hDn
  have HUP := Lib.hid hUp
  clear hK he hD hDD ht hsl hT hdt h64 hI0 hI2 hs0 hst sml3 sml2 sml1 a0 cP hql hpv hP cA cB cL cU hLn hDn hUp hA hB2 hU hL hr mP mA mB mL mU
  go_enter Tryz.func7, Tryz.ntmps7
  go_wp2_with fail
  refine (HT.out _).mono ?_
  rintro E w1 ⟨rfl, rfl⟩
  go_wp2_with fail
  refine (HDD.out _).mono ?_
  rintro E w2 ⟨rfl, hb2⟩
  go_wp2_with fail
  refine (HMP.out w2 (HE.out.below hb2)).mono ?_
  rintro E w3 ⟨rfl, hb3⟩
  replace hb2 := below_then hb2 hb3
  clear hb3
  go_wp2_with fail
  refine (HDD.out _).mono ?_
  rintro E w4 ⟨rfl, hb4⟩
  replace hb2 := below_then hb2 hb4
  clear hb4
  go_wp2_with fail
  refine (HMA.out w4 (HE.out.below hb2)).mono ?_
  rintro E w5 ⟨rfl, hb5⟩
  replace hb2 := below_then hb2 hb5
  clear hb5
  go_wp2_with fail
  refine (HDD.out _).mono ?_
  rintro E w6 ⟨rfl, hb6⟩
  replace hb2 := below_then hb2 hb6
  clear hb6
  go_wp2_with fail
  refine (HMB.out w6 (HE.out.below hb2)).mono ?_
  rintro E w7 ⟨rfl, hb7⟩
  replace hb2 := below_then hb2 hb7
  clear hb7
  go_wp2_with fail
  refine (HML.out w7 (HE.out.below hb2)).mono ?_
  rintro E w8 ⟨rfl, hb8⟩
  replace hb2 := below_then hb2 hb8
  clear hb8
  go_wp2_with fail
  refine (HMU.out w8 (HE.out.below hb2)).mono ?_
  rintro E w9 ⟨rfl, hb9⟩
  replace hb2 := below_then hb2 hb9
  clear hb9
  go_wp2_with fail
  refine (HLN.out _).mono ?_
  rintro E w10 ⟨rfl, hb10⟩
  replace hb2 := below_then hb2 hb10
  clear hb10
  go_wp2_with fail
  refine (HDN.out _).mono ?_
  rintro E w11 ⟨rfl, hb11⟩
  replace hb2 := below_then hb2 hb11
  clear hb11
  go_wp2_with fail
  refine (HUP.out _).mono ?_
  rintro E w12 ⟨rfl, hb12⟩
  replace hb2 := below_then hb2 hb12
  clear hb12
  go_wp2_with fail
  refine (HLN.out _).mono ?_
  rintro E w13 ⟨rfl, hb13⟩
  replace hb2 := below_then hb2 hb13
  clear hb13
  go_wp2_with fail
  refine (HK.out _ hb2).mono ?_
  rintro E w14 ⟨rfl, hb14⟩
  go_wp2_with fail
  go_ret
  exact ⟨rfl, below_then hb2 hb14⟩
end Go.Proofs.YtcklofamaooegaaGreatDoor
namespace Go.Proofs.YtcklofamaooegaaGreatDoor.functionCounts
open Go.ChangeShapes Go.WideShapes Go.ChangeAt Go.RowKit
open Go.ChangeMaps (open_string shut_string)
set_option linter.unusedVariables false
set_option maxRecDepth 100000 in
theorem contract (H : Type) (enc : TypeId × Value → H) (W : World) (base : Nat) (args : Array Value) (ds gs : List (DataW H)) (before : List MemPlace)
  (hval : ∀ (j : Nat) t v, Tryz.f7.params[j]? = some t → args[j]? = some v → Value.okWide Tryz.prog W .any base t v)
  (hW : DataW.Whole enc Tryz.prog Tryz.f7.params.toList Rows.functionCountsSpec.vars false W args.toList ds gs before) (hL : laidMetH Tryz.prog Rows.functionCountsRow.laid W) (hsh : W.ShapedOpen Tryz.prog) :
  Calls Tryz.prog 7 args W fun e W' => ∃ v, e = .returned v ∧ Rows.functionCountsSpec.post enc Tryz.prog Tryz.f7 false true false false W args v W' := by
 have he : Env W := ⟨tab_of_laid2 hL, maxLen_of_shaped hsh⟩
 have hW' := hW
 obtain ⟨p, q, hA0, hV, rfl, hfz, hnd⟩ := hW
 have hA : DataW.TrodAll enc Tryz.prog W 0 (fun _ => true) true Tryz.f7.params.toList args.toList ds p := hA0
 rw [Tryz.params7] at hA hval
 obtain ⟨v0, vs0, d0, ds0, p0, q0, hargs, rfl, rfl, h0, r0⟩ := trodAll_cons hA
 obtain ⟨v1, vs1, d1, ds1, p1, q1, rfl, rfl, rfl, h1, r1⟩ := trodAll_cons r0
 obtain ⟨rfl, rfl, rfl⟩ := trodAll_nil r1
 obtain rfl : args = #[v0, v1] := by cases args; simp_all
 obtain ⟨rfl, rfl⟩ := trodVars_none hV
 have k0 := h0
 have lt0 : ∀ x ∈ p0, x.block < W.heap.size := by obtain ⟨m, hm⟩ := k0; exact DataW.trod_lt m _ _ _ hm
 have k1 := h1
 have lt1 : ∀ x ∈ p1, x.block < W.heap.size := by obtain ⟨m, hm⟩ := k1; exact DataW.trod_lt m _ _ _ hm
 obtain ⟨s0, rfl, rfl, rfl, w0⟩ := open_string Tryz.underlying9 (hval 0 9 v0 rfl rfl) h0
 obtain ⟨a1, rfl, rfl, rfl, w1⟩ := open_int Tryz.underlying3 (hval 1 3 v1 rfl rfl) h1
 have w1 := bounds_i64 w1
 clear hA0
 refine (law_counts s0 a1 W (by have := w0; unfold maxLen at this; omega) he).mono fun e W' ⟨he, bel⟩ => ?_
 subst he
 exact ⟨_, rfl, _, _, _, [], _, [], hW', trodAll_mk1 (shut_bool Tryz.underlying4 _), (trodAll_cons_mk (Below.trod laidOut (by kernel_rfl) (of_decide_eq_true (by kernel_rfl)) k0 bel lt0) (trodAll_cons_mk (Below.trod laidOut (by kernel_rfl) (of_decide_eq_true (by kernel_rfl)) k1 bel lt1) trodAll_mk0)), rfl, bel.frame _, fun h => by cases h⟩
theorem laid_met (os : Os) : laidMet Tryz.prog Rows.functionCountsRow.laid ((laidWorld2 os).forCall (fun _ _ => 0) ⟨#[], #[.string ⟨#[]⟩, .int .i64 0], []⟩).memory :=
 laidMet_of_run' 8 (by kernel_rfl) (by kernel_rfl)
theorem reads (os : Os) {H : Type} (enc : TypeId × Value → H) : ∃ places, DataW.whole enc Tryz.prog ((laidWorld2 os).forCall (fun _ _ => 0) ⟨#[], #[.string ⟨#[]⟩, .int .i64 0], []⟩).memory Tryz.f7.params.toList Rows.functionCountsSpec.vars false (#[.string ⟨#[]⟩, .int .i64 0] : Array Value).toList 8 = some ([.lit (.string []), .lit (.int .i64 0)], [], places) :=
 ⟨[], by kernel_rfl⟩
set_option maxRecDepth 100000 in
theorem lifted (os : Os) (started : os.Started) (H : Type) (enc : TypeId × Value → H) (F : Stop.Interp) :
  ReturnsInHanded {} Tryz.checked os 7 .any ((OpenSpec.ofChange Rows.functionCountsSpec).preRow enc Tryz.prog Tryz.f7 Rows.functionCountsRow.domain false Rows.functionCountsRow.laid) (((OpenSpec.ofChange Rows.functionCountsSpec).at F).post enc Tryz.prog Tryz.f7 false true false false) := by
 obtain ⟨places, hx⟩ := reads os enc
 refine returnsInHanded_of_row (C := Tryz.checked) (s := OpenSpec.ofChange Rows.functionCountsSpec) own started (by kernel_rfl) Tryz.func7
  (witness_row_at (enc := enc) (C := Tryz.checked) false (laidWorld2 os) #[.string ⟨#[]⟩, .int .i64 0] rfl (by kernel_rfl) (by kernel_rfl) (by kernel_rfl)
   (OpenSpec.preRow_of_cond 8 hx (by kernel_rfl) (fun k hk => by cases hk) (by kernel_rfl) (laid_met os))) ?_
 intro W base args ds gs before hval hW _ _ _ hL hsh _
 exact contract H enc W base args ds gs before hval hW hL hsh
theorem said : Rows.FunctionCountsSaid :=
 OpenClaim.holds_of_cond 7 Tryz.f7 rfl rfl rfl rfl rfl rfl rfl ⟨rfl, rfl, rfl, rfl, rfl⟩ rfl rfl rfl rfl rfl (by kernel_rfl) Tryz.func7 (by kernel_rfl)
  (of_decide_eq_true (by kernel_rfl)) (by unfold Func.isWrapper; first | (rw [if_pos (by decide +kernel)]; kernel_rfl) | (rw [if_neg (by decide +kernel)]; exact ⟨rfl, rfl⟩))
  (fun os started H enc _ F => by rw [OpenClaim.pre_eq_preRow]; exact lifted os started H enc F)
theorem plain (f : FuncId) (fn : Func) (hf : Tryz.pinned.checked.prog.funcNamed "transclude/trclaw11.FunctionCounts" = some f) (hfn : Tryz.pinned.checked.prog.funcs[f]? = some fn) :
  true = Tryz.pinned.checked.prog.looks [] ∧ ∀ (j : Nat) t, fn.params[j]? = some t → Tryz.pinned.checked.prog.wantsStandIn t = false := by
 obtain rfl : f = 7 := Option.some.inj ((show Tryz.prog.funcNamed "transclude/trclaw11.FunctionCounts" = some 7 by kernel_rfl).symm.trans hf) |>.symm
 obtain rfl : fn = Tryz.f7 := (Option.some.inj (Tryz.func7.symm.trans hfn)).symm
 refine ⟨by kernel_rfl, fun j t ht => ?_⟩
 rw [Tryz.params7] at ht
 have hm : t ∈ [9, 3] := by simpa using Array.mem_of_getElem? ht
 simp only [List.mem_cons, List.not_mem_nil, or_false] at hm
 rcases hm with rfl | rfl
 ·exact (show Tryz.prog.wantsStandIn 9 = false by kernel_rfl)
 ·exact (show Tryz.prog.wantsStandIn 3 = false by kernel_rfl)
theorem card : Rows.FunctionCountsCardSaid :=
 Claim7.holds_tied_plain_at .later [] _ _ _ _ said (fun _ h => by cases h) (by kernel_rfl) (fun _ h => by cases h) functionCounts_row_tie rfl ⟨rfl, rfl⟩ (by kernel_rfl) rfl plain (by kernel_rfl)
#print axioms card
end Go.Proofs.YtcklofamaooegaaGreatDoor.functionCounts
