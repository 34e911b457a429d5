/-
  The claim's own texts, packed. Conditions: those typed in each theorem.
-/
import Derived.Test.YthieinfonomeeaaGreatDoorZAao
import Derived.BigQuiet
import Derived.Test.YthieinfonomeeaaGreatDoorZAac
namespace Go.Proofs.YthieinfonomeeaaGreatDoor
open Go.RowKit Tit
set_option linter.unusedVariables false
attribute [local go_sem ↓] Go.wp_at_zero Go.wp_at_succ
theorem below_drewN {B : Nat} {a w : World} (h : Below B a w) (n : Nat) : Below B a (w.drewN n) := ⟨h.os, h.tape, h.output, h.size, h.block⟩
theorem segs_le (l : List UInt8) : (segs l).length ≤ l.length + 1 := by
 induction l with
 | nil => simp [segs]
 | cons c r ih =>
   unfold segs
   split
   ·simpa using ih
   ·split
    ·simp
    ·rename_i h; rw [h] at ih; simp at ih ⊢; omega
theorem tw_mem (c : UInt8) (l : List UInt8) : (l.takeWhile (· ≠ c)).length = l.length ↔ c ∉ l := by
 induction l with
 | nil => simp
 | cons a r ih =>
   by_cases h : a = c
   ·subst h; simp
   ·have : decide (a ≠ c) = true := by simpa using h
    rw [List.takeWhile_cons, this]
    simp only [if_true, List.length_cons, Nat.add_right_cancel_iff, ih, List.mem_cons, not_or]
    exact ⟨fun x => ⟨fun e => h e.symm, x⟩, fun x => x.2⟩
theorem idx_mem (c : UInt8) (l : List UInt8) : 0 ≤ idx l [c] 0 ↔ c ∈ l := by
 have h := tw_mem c l
 unfold idx
 rw [List.drop_zero, index_byte]
 by_cases hc : c ∈ l
 ·have : ¬ (l.takeWhile (· ≠ c)).length = l.length := fun e => h.1 e hc
  rw [if_neg this, if_neg (by omega)]
  simp only [hc, iff_true]; omega
 ·rw [if_pos (h.2 hc)]; simp [hc]
theorem pre_preI (s : List UInt8) : (pre s = none ∧ preI s = (0, 0)) ∨ ∃ n k, pre s = some (n, s.drop (k + 1)) ∧ preI s = (n, k) ∧ 1 ≤ n ∧ n ≤ 5 ∧ k < s.length := by
 unfold pre preI
 by_cases h : (s.takeWhile (· ≠ 58)).length = s.length
 ·rw [if_pos h, if_pos h]; exact .inl ⟨rfl, rfl⟩
 ·rw [if_neg h, if_neg h]
  have hle := tw_le (· ≠ 58) s
  cases hq : spOf (chop (s.takeWhile (· ≠ 58))) 5 1 with
  | none => exact .inl ⟨rfl, rfl⟩
  | some n =>
    refine .inr ⟨n, (s.takeWhile (· ≠ 58)).length, rfl, rfl, ?_, ?_, by omega⟩
    all_goals
     unfold spOf at hq; split at hq
     ·injection hq with hq; omega
     unfold spOf at hq; split at hq
     ·injection hq with hq; omega
     unfold spOf at hq; split at hq
     ·injection hq with hq; omega
     unfold spOf at hq; split at hq
     ·injection hq with hq; omega
     unfold spOf at hq; split at hq
     ·injection hq with hq; omega
     ·cases hq
theorem pre_some (s : List UInt8) : (pre s).isSome = !(decide ((preI s).1 = 0)) := by
 rcases pre_preI s with ⟨h1, h2⟩ | ⟨n, k, h1, h2, h3, _⟩
 ·rw [h1, h2]; rfl
 ·rw [h1, h2]; simp; omega
set_option maxRecDepth 10000 in
set_option maxHeartbeats 4000000 in
theorem rvalid_any (sp : Int) (s : ByteArray) (w : World) (hs : s.size ≤ 100000000) : Calls Tryz.prog 160 #[.agg #[.int .i64 sp, .string s]] w fun e w' => e = .returned (.bool (valid sp s.data.toList)) ∧ Below w.heap.size w w' := by
 have hz : s.data.toList.length = s.size := by simp
 have hvd : valid sp s.data.toList = (decide (0 ≤ sp) && decide (sp < 6) && validN (sp == 0) s.data.toList) := rfl
 have hvn : validN (sp == 0) s.data.toList = (decide (1 ≤ s.data.toList.length) && decide (s.data.toList.length ≤ 100) && cleanF 0 s.data.toList && (segs s.data.toList).all segOk && !(s.data.toList.head? == some 58 || (s.data.toList.head?.any fun c => decide (97 ≤ c) && decide (c ≤ 122))) && !((sp == 0) && (pre s.data.toList).isSome)) := by
  unfold validN
  simp
 have K0 := Known.made w 54 #[.int .i64 sp, .string s]
 have hb0 := below_new0 w (.cells #[.int .i64 sp, .string s] 54)
 obtain ⟨c0, c1⟩ := K0.two
 have k0l := K0.lt
 have HV := Lib.hid hvd
 have HVN := Lib.hid hvn
 have HK0 := Lib.hid K0
 have HB0 := Lib.hid hb0
 clear hvd hvn K0 hb0
 rw [hz] at HVN
 go_enter Tryz.func160, Tryz.ntmps160
 by_cases h1 : sp < 0
 ·have g1 : decide (sp < 0) = true := decide_eq_true h1
  have HF : Hid (valid sp s.data.toList = false) := Lib.hid (by rw [HV.out, decide_eq_false (show ¬ 0 ≤ sp by omega)]; rfl)
  go_wp2_with fail
  go_ret
  exact ⟨ret_bool HF.out.symm, HB0.out⟩
 have g1 : decide (sp < 0) = false := decide_eq_false h1
 by_cases h2 : 6 ≤ sp
 ·have g2 : decide (6 ≤ sp) = true := decide_eq_true h2
  have HF : Hid (valid sp s.data.toList = false) := Lib.hid (by rw [HV.out, decide_eq_false (show ¬ sp < 6 by omega)]; simp)
  go_wp2_with fail
  go_ret
  exact ⟨ret_bool HF.out.symm, HB0.out⟩
 have g2 : decide (6 ≤ sp) = false := decide_eq_false h2
 have hv2 : valid sp s.data.toList = validN (sp == 0) s.data.toList := by rw [HV.out, decide_eq_true (show 0 ≤ sp by omega), decide_eq_true (show sp < 6 by omega)]; rfl
 have HV2 := Lib.hid hv2
 clear hv2 HV
 by_cases h3 : s.size < 1
 ·have g3 : decide ((s.size : Int) < 1) = true := by simp; omega
  have HF : Hid (valid sp s.data.toList = false) := Lib.hid (by rw [HV2.out, HVN.out, decide_eq_false (show ¬ 1 ≤ s.size by omega)]; rfl)
  go_wp2_with fail
  go_ret
  exact ⟨ret_bool HF.out.symm, HB0.out⟩
 have g3 : decide ((s.size : Int) < 1) = false := by simp; omega
 by_cases h4 : 100 < s.size
 ·have g4 : decide ((100 : Int) < (s.size : Int)) = true := by simp; omega
  have HF : Hid (valid sp s.data.toList = false) := Lib.hid (by rw [HV2.out, HVN.out, decide_eq_false (show ¬ s.size ≤ 100 by omega)]; simp)
  go_wp2_with fail
  go_ret
  exact ⟨ret_bool HF.out.symm, HB0.out⟩
 have g4 : decide ((100 : Int) < (s.size : Int)) = false := by simp; omega
 have hv3 : valid sp s.data.toList = (cleanF 0 s.data.toList && (segs s.data.toList).all segOk && !(s.data.toList.head? == some 58 || (s.data.toList.head?.any fun c => decide (97 ≤ c) && decide (c ≤ 122))) && !((sp == 0) && (pre s.data.toList).isSome)) := by
  rw [HV2.out, HVN.out, decide_eq_true (show 1 ≤ s.size by omega), decide_eq_true (show s.size ≤ 100 by omega)]; rfl
 have HV3 := Lib.hid hv3
 clear hv3 HV2 HVN
 obtain ⟨l, hl⟩ : ∃ l, l = s.data.toList := ⟨_, rfl⟩
 have hby2 : ∀ k (hk : k < s.size), ∃ h : k < l.length, s[k] = l[k] := by rw [hl]; exact byte_at s
 have HBY := Lib.hid hby2
 rw [← hl] at HV3 hz ⊢
 have HLL := Lib.hid hl
 clear hby2
 clear hl
 go_wp2_with fail
 obtain ⟨W0, hW0⟩ : ∃ W0, W0 = w.alloc (.cells #[.int .i64 sp, .string s] 54) := ⟨_, rfl⟩
 rw [← hW0] at HB0 HK0 c0 c1 k0l ⊢
 clear hW0
 go_loopg [4] (s.size + 1) (fun g s4 wr => ∃ k : Nat, k ≤ s.size ∧ s.size < k + g ∧ s4 = .int .i64 k ∧ cleanF (prv l k) (l.drop k) = cleanF 0 l ∧ W0 = wr)
 case atStart => exact ⟨0, by omega, by omega, rfl, by simp [prv], rfl⟩
 case round =>
  obtain ⟨k, hk1, hk2, rfl, hcl, rfl⟩ := hrel
  have HCL := Lib.hid hcl
  clear hcl
  by_cases hkn : k < s.size
  ·have g5 : decide (k < s.size) = true := decide_eq_true hkn
   obtain ⟨hkl, hbk⟩ := HBY.out k hkn
   have hdr := List.drop_eq_getElem_cons hkl
   have hpr := prv_succ l k hkl
   obtain ⟨ch, hch⟩ : ∃ ch, ch = l[k] := ⟨_, rfl⟩
   rw [← hch] at hbk hdr hpr
   have hcl := HCL.out
   rw [hdr] at hcl
   have HC2 := Lib.hid hcl
   have HPR := Lib.hid hpr
   have hbad := badC_eq ch
   have hx8 := ch.toNat_lt
   have hmem := idx_mem ch badL
   have h32 : ch = 32 ↔ ch.toNat = 32 := u8_eq (by decide)
   have hE : (s.extract k (k + 1)).data.toList = [ch] := by rw [one_data s k hkn, hbk]
   have hEz : (s.extract k (k + 1)).size = 1 := by rw [ByteArray.size_extract]; omega
   have hIB := fun W => index_any ⟨badL.toArray⟩ (s.extract k (k + 1)) 0 W (by decide) (by omega) (by omega) (Nat.zero_le _)
   have e1 : (⟨badL.toArray⟩ : ByteArray).data.toList = badL := rfl
   rw [hE, e1] at hIB
   generalize idx badL [ch] 0 = ix at hIB hmem
   obtain ⟨x, hx⟩ : ∃ x, s[k].toNat = x := ⟨_, rfl⟩
   have hcn : ch.toNat = x := by rw [← hbk]; exact hx
   rw [hcn] at hbad hx8 h32
   obtain ⟨bd, hbd⟩ : ∃ bd, bd = (badC ch || (ch == 32 && prv l k == 32)) := ⟨_, rfl⟩
   have HBD := Lib.hid hbd
   have HIB := Lib.hid hIB
   have HBAD := Lib.hid hbad
   have HMEM := Lib.hid hmem
   have H32 := Lib.hid h32
   clear hkl hbk hdr hpr hch hcl hbad hmem h32 hIB e1 hcn hE hbd HCL
   go_upto_region 7 with fail
   go_cut [70] from 35 to 70 (fun s70 wc => s70 = .bool bd ∧ W0 = wc)
   case first =>
    by_cases h1 : x < 32
    ·have g6 : decide ((x : Int) < 32) = true := by simp; omega
     have hbt : bd = true := by rw [HBD.out, HBAD.out]; simp [h1]
     subst hbt
     go_wp2_with fail
     go_meet
     case rel => exact ⟨rfl, rfl⟩
    have g6 : decide ((x : Int) < 32) = false := by simp; omega
    by_cases h2 : x = 127
    ·have g7 : ((x : Int) == 127) = true := by simp; omega
     have hbt : bd = true := by rw [HBD.out, HBAD.out]; simp [h2]
     subst hbt
     clear h2
     go_wp2_with fail
     go_meet
     case rel => exact ⟨rfl, rfl⟩
    have g7 : ((x : Int) == 127) = false := by simp; omega
    by_cases h3 : 0 ≤ ix
    ·have g8 : decide (0 ≤ ix) = true := decide_eq_true h3
     have hbt : bd = true := by rw [HBD.out, HBAD.out]; simp [HMEM.out.1 h3]
     subst hbt
     clear h2
     go_wp2_with fail
     refine (HIB.out _).mono ?_
     rintro e w1 ⟨rfl, rfl⟩
     go_wp2_with fail
     go_meet
     case rel => exact ⟨rfl, rfl⟩
    have g8 : decide (0 ≤ ix) = false := decide_eq_false h3
    have hnb : badC ch = false := by
     rw [HBAD.out]
     have : ¬ ch ∈ badL := fun e => h3 (HMEM.out.2 e)
     simp [h1, h2, this]
    have hbd2 : bd = (ch == 32 && prv l k == 32) := by rw [HBD.out, hnb]; rfl
    have HBD2 := Lib.hid hbd2
    clear h2 h3 hnb hbd2
    by_cases h4 : x = 32
    ·have H5 := Lib.hid (H32.out.2 h4)
     have g9 : ((x : Int) == 32) = true := by simp; omega
     clear h4
     by_cases h0 : k = 0
     ·subst h0
      have hbt : bd = false := by rw [HBD2.out]; simp [prv]
      subst hbt
      go_wp2_with fail
      refine (HIB.out _).mono ?_
      rintro e w1 ⟨rfl, rfl⟩
      go_wp2_with fail
      go_meet
      case rel => exact ⟨rfl, rfl⟩
     ·obtain ⟨m, rfl⟩ : ∃ m, k = m + 1 := ⟨k - 1, by omega⟩
      have ga : decide ((0 : Int) < ((m + 1 : Nat) : Int)) = true := by rw [decide_eq_true_eq]; omega
      have hms : m < s.size := by omega
      obtain ⟨hml, hbm⟩ := HBY.out m hms
      have hpm := prv_succ l m hml
      obtain ⟨y, hy⟩ : ∃ y, s[m].toNat = y := ⟨_, rfl⟩
      have hy2 : (prv l (m + 1)).toNat = y := by rw [hpm, ← hbm]; exact hy
      have hy32 : prv l (m + 1) = 32 ↔ (prv l (m + 1)).toNat = 32 := u8_eq (by decide)
      rw [hy2] at hy32
      have hbt : ((y : Int) == 32) = bd := by
       rw [HBD2.out, H5.out, Bool.eq_iff_iff]
       simp only [beq_iff_eq, beq_self_eq_true, Bool.true_and]
       exact ⟨fun h => hy32.2 (by omega), fun h => by have := hy32.1 h; omega⟩
      have HBT := Lib.hid hbt
      clear hml hbm hpm hy2 hy32 h0 hbt
      go_wp2_with fail
      refine (HIB.out _).mono ?_
      rintro e w1 ⟨rfl, rfl⟩
      go_wp2_with fail
      go_meet
      case rel => exact ⟨by rw [HBT.out], rfl⟩
    ·have g9 : ((x : Int) == 32) = false := by simp; omega
     have hbt : bd = false := by
      rw [HBD2.out]
      have : (ch == 32) = false := by simpa using fun e => h4 (H32.out.1 e)
      rw [this]; rfl
     subst hbt
     clear h4
     go_wp2_with fail
     refine (HIB.out _).mono ?_
     rintro e w1 ⟨rfl, rfl⟩
     go_wp2_with fail
     go_meet
     case rel => exact ⟨rfl, rfl⟩
   case rest =>
    obtain ⟨rfl, rfl⟩ := hcut
    cases bd with
    | true =>
      have hc := HC2.out
      rw [cleanF_bad HBD.out.symm] at hc
      have HF : Hid (valid sp l = false) := Lib.hid (by rw [HV3.out, ← hc]; rfl)
      clear hc
      go_wp2_with fail
      go_ret
      exact ⟨ret_bool HF.out.symm, HB0.out⟩
    | false =>
      have hc := HC2.out
      rw [cleanF_ok HBD.out.symm, ← HPR.out] at hc
      have HC3 := Lib.hid hc
      clear hc
      go_wp2_with fail
      go_roundg (s.size - k)
      case measure => omega
      case rel => exact ⟨k + 1, by omega, by omega, by go_num, HC3.out, rfl⟩
  ·have g5 : decide (k < s.size) = false := decide_eq_false hkn
   have hc1 : cleanF 0 l = true := by rw [← HCL.out, List.drop_eq_nil_of_le (by omega)]; rfl
   have hv4 : valid sp l = ((segs l).all segOk && !(l.head? == some 58 || (l.head?.any fun c => decide (97 ≤ c) && decide (c ≤ 122))) && !((sp == 0) && (pre l).isSome)) := by
    rw [HV3.out, hc1]; rfl
   have HV4 := Lib.hid hv4
   have hPA := parts_any s W0 (by omega)
   rw [← HLL.out] at hPA
   have hsl := segs_len l
   have HSL := Lib.hid hsl
   clear hc1 hv4 HCL HV3 hkn hsl
   go_wp2_with fail
   refine hPA.mono ?_
   rintro e w2 ⟨v, rfl, hown, hb2⟩
   have hNl : 0 < (segs l).length := List.length_pos_iff.2 (segs_ne l)
   obtain ⟨gs, cap, rfl, hob, hBg, hgz, hcell, hfr⟩ := hown.block hNl
   obtain ⟨N, hN⟩ : ∃ N, N = (segs l).length := ⟨_, rfl⟩
   have hNs : N ≤ l.length + 1 := by rw [hN]; exact segs_le l
   have HN := Lib.hid hN
   have HC := Lib.hid hcell
   have HK2 := Lib.hid (HK0.out.on hb2)
   have HB2 := Lib.hid (below_then HB0.out hb2)
   rw [← hN] at hNl ⊢
   clear hN hcell hown hb2 hob hfr hPA c0 c1 k0l HB0 HK0
   go_wp2_with fail
   go_loopg [6] (N + 1) (fun g s6 wr => ∃ k : Nat, k ≤ N ∧ N < k + g ∧ s6 = .int .i64 k ∧ ((segs l).take k).all segOk = true ∧ Below w2.heap.size w2 wr)
   case atStart => exact ⟨0, by omega, by omega, rfl, by simp, Below.refl _ _⟩
   case round =>
    obtain ⟨k, hk1, hk2, rfl, hall, hbr⟩ := hrel
    have HALL := Lib.hid hall
    have HBR := Lib.hid hbr
    clear hall hbr
    by_cases hlt : k < N
    ·have g5 : decide (k < N) = true := decide_eq_true hlt
     have hkp : k < (segs l).length := by rw [← HN.out]; exact hlt
     have e1 := (HBR.out.cell (p := ⟨gs, k, none⟩) hgz).trans (HC.out k hkp)
     have hseg : (segs l)[k]? = some (segs l)[k] := List.getElem?_eq_getElem hkp
     obtain ⟨X, hX⟩ : ∃ X : ByteArray, X = ⟨((segs l)[k]).toArray⟩ := ⟨_, rfl⟩
     have hXd : (segs l)[k] = X.data.toList := by rw [hX]
     rw [← hX] at e1
     rw [hXd] at hseg
     have hsucc : ((segs l).take (k + 1)).all segOk = segOk X.data.toList := by
      rw [List.take_add_one, hseg]
      simp [HALL.out]
     have hbadv : segOk X.data.toList = false → valid sp l = false := fun hb => by
      rw [HV4.out]
      have : (segs l).all segOk = false := by
       rw [List.all_eq_false]
       exact ⟨X.data.toList, List.mem_of_getElem? hseg, by simp [hb]⟩
      rw [this]; rfl
     have HSU := Lib.hid hsucc
     have HBV := Lib.hid hbadv
     have hXz : X.data.toList.length = X.size := by simp
     have hXs := HSL.out _ (List.mem_of_getElem? hseg)
     rw [hXz, hz] at hXs
     obtain ⟨bd, hbd⟩ : ∃ bd, bd = !(segOk X.data.toList) := ⟨_, rfl⟩
     have HBD := Lib.hid hbd
     clear hkp hseg hX hXd hsucc hbadv hbd
     go_upto_region 13 with fail
     go_cut [105] from 79 to 105 (fun s105 wc => s105 = .bool bd ∧ Below w2.heap.size w2 wc)
     case first =>
      by_cases h6 : X.data.toList = []
      ·have g6 := empty_yes h6
       have hbt : bd = true := by rw [HBD.out, h6]; rfl
       subst hbt
       clear h6 hXz
       go_quiet (fail)
       go_wp2_with fail
       go_meet
       case rel => exact ⟨rfl, below_drewN HBR.out _⟩
      have g6 := empty_no h6
      have hX0 : 0 < X.size := by
       rw [← hXz]
       exact List.length_pos_iff.2 h6
      have hh := head_at X hX0
      obtain ⟨q, hq⟩ : ∃ q, X.size = q + 1 := ⟨X.size - 1, by omega⟩
      have hq2 : q < X.size := by omega
      have hl := last_at X q hq hq2
      have hsg : bd = !(decide (X[0].toNat ≠ 32) && decide (X[q].toNat ≠ 32)) := by
       rw [HBD.out]
       unfold segOk
       rw [hh, hl, some_eq, some_eq]
       have : (X.data.toList == []) = false := by simpa using h6
       rw [this]
       have a1 : X[0] = 32 ↔ X[0].toNat = 32 := u8_eq (by decide)
       have a2 : X[q] = 32 ↔ X[q].toNat = 32 := u8_eq (by decide)
       have b1 : decide (X[0] = 32) = decide (X[0].toNat = 32) := decide_eq_decide.2 a1
       have b2 : decide (X[q] = 32) = decide (X[q].toNat = 32) := decide_eq_decide.2 a2
       rw [b1, b2]
       simp
      have HSG := Lib.hid hsg
      clear hh hl hsg h6 hXz
      obtain ⟨x, hx⟩ : ∃ x, X[0].toNat = x := ⟨_, rfl⟩
      obtain ⟨y, hy⟩ : ∃ y, X[q].toNat = y := ⟨_, rfl⟩
      rw [hx, hy] at HSG
      have hq3 : (X.size : Int) = (q : Int) + 1 := by omega
      by_cases h7 : x = 32
      ·have g7 : ((x : Int) == 32) = true := by simp; omega
       have hbt : bd = true := by rw [HSG.out]; simp [h7]
       subst hbt
       clear h7
       go_quiet (fail)
       go_wp2_with fail
       go_meet
       case rel => exact ⟨rfl, below_drewN HBR.out _⟩
      have g7 : ((x : Int) == 32) = false := by simp; omega
      by_cases h8 : y = 32
      ·have g8 : ((y : Int) == 32) = true := by simp; omega
       have hbt : bd = true := by rw [HSG.out]; simp [h8]
       subst hbt
       clear h7 h8
       go_quiet (fail)
       go_wp2_with fail
       go_meet
       case rel => exact ⟨rfl, below_drewN HBR.out _⟩
      have g8 : ((y : Int) == 32) = false := by simp; omega
      have hbt : bd = false := by rw [HSG.out]; simp [h7, h8]
      subst hbt
      clear h7 h8
      go_quiet (fail)
      go_wp2_with fail
      go_meet
      case rel => exact ⟨rfl, below_drewN HBR.out _⟩
     case rest =>
      obtain ⟨rfl, hbc⟩ := hcut
      have HBC := Lib.hid hbc
      clear hbc
      cases bd with
      | true =>
        have HF := Lib.hid (HBV.out (by simpa using HBD.out.symm))
        go_wp2_with fail
        go_ret
        exact ⟨ret_bool HF.out.symm, below_then HB2.out HBC.out⟩
      | false =>
        have HOKS := Lib.hid (HSU.out.trans (by simpa using HBD.out.symm))
        go_wp2_with fail
        go_roundg (N - k)
        case measure => omega
        case rel => exact ⟨k + 1, by omega, by omega, by go_num, HOKS.out, HBC.out⟩
    ·have g5 : decide (k < N) = false := decide_eq_false hlt
     have hallT : (segs l).all segOk = true := by
      have h1 := HALL.out
      rw [List.take_of_length_le (by rw [← HN.out]; omega)] at h1
      exact h1
     have hs0 : 0 < s.size := by omega
     have hh := head_at s hs0
     rw [← HLL.out] at hh
     have hv5 : valid sp l = (!(decide (s[0].toNat = 58) || (decide (97 ≤ s[0].toNat) && decide (s[0].toNat ≤ 122))) && !((sp == 0) && !(decide ((preI l).1 = 0)))) := by
      rw [HV4.out, hallT, hh, some_eq, pre_some]
      have a1 : s[0] = 58 ↔ s[0].toNat = 58 := u8_eq (by decide)
      have a2 : (97 : UInt8) ≤ s[0] ↔ 97 ≤ s[0].toNat := UInt8.le_iff_toNat_le
      have a3 : s[0] ≤ (122 : UInt8) ↔ s[0].toNat ≤ 122 := UInt8.le_iff_toNat_le
      have b1 : decide (s[0] = 58) = decide (s[0].toNat = 58) := decide_eq_decide.2 a1
      have b2 : decide ((97 : UInt8) ≤ s[0]) = decide (97 ≤ s[0].toNat) := decide_eq_decide.2 a2
      have b3 : decide (s[0] ≤ (122 : UInt8)) = decide (s[0].toNat ≤ 122) := decide_eq_decide.2 a3
      simp only [Option.any_some, b1, b2, b3, Bool.true_and]
     obtain ⟨x, hx⟩ : ∃ x, s[0].toNat = x := ⟨_, rfl⟩
     rw [hx] at hv5
     have hPR := fun W => prefixed_any s W hs
     rw [← HLL.out] at hPR
     obtain ⟨pn, hpn⟩ : ∃ pn, pn = (preI l).1 := ⟨_, rfl⟩
     rw [← hpn] at hPR hv5
     have HV5 := Lib.hid hv5
     have HPR := Lib.hid hPR
     have k2 := (HK2.out.on HBR.out)
     clear hallT hh hv5 HALL hPR hpn hlt
     obtain ⟨bx, hbx⟩ : ∃ bx, bx = (decide (x = 58) || (decide (97 ≤ x) && decide (x ≤ 122))) := ⟨_, rfl⟩
     have HBX := Lib.hid hbx
     rw [← hbx] at HV5
     clear hbx
     have HK3 := Lib.hid k2
     clear k2
     go_upto_region 15 with fail
     go_cut [118] from 10 to 118 (fun s118 wc => s118 = .bool bx ∧ wr = wc)
     case first =>
      by_cases h6 : x = 58
      ·have g6 : ((x : Int) == 58) = true := by simp; omega
       have hbt : bx = true := by rw [HBX.out]; simp [h6]
       subst hbt
       clear h6
       go_wp2_with fail
       go_meet
       case rel => exact ⟨rfl, rfl⟩
      have g6 : ((x : Int) == 58) = false := by simp; omega
      by_cases h7 : 97 ≤ x
      ·have g7 : decide ((97 : Int) ≤ (x : Int)) = true := by simp; omega
       by_cases h8 : x ≤ 122
       ·have g8 : decide ((x : Int) ≤ 122) = true := by simp; omega
        have hbt : bx = true := by rw [HBX.out]; simp [h7, h8]
        subst hbt
        clear h6 h7 h8
        go_wp2_with fail
        go_meet
        case rel => exact ⟨rfl, rfl⟩
       ·have g8 : decide ((x : Int) ≤ 122) = false := by simp; omega
        have hbt : bx = false := by rw [HBX.out]; simp [h6, h8]
        subst hbt
        clear h6 h7 h8
        go_wp2_with fail
        go_meet
        case rel => exact ⟨rfl, rfl⟩
      ·have g7 : decide ((97 : Int) ≤ (x : Int)) = false := by simp; omega
       have hbt : bx = false := by rw [HBX.out]; simp [h6, h7]
       subst hbt
       clear h6 h7
       go_wp2_with fail
       go_meet
       case rel => exact ⟨rfl, rfl⟩
     case rest =>
      obtain ⟨rfl, rfl⟩ := hcut
      cases bx with
      | true =>
        have HF : Hid (valid sp l = false) := Lib.hid (by rw [HV5.out]; rfl)
        go_wp2_with fail
        go_ret
        exact ⟨ret_bool HF.out.symm, below_then HB2.out HBR.out⟩
      | false =>
        have hv6 : valid sp l = !((sp == 0) && !(decide (pn = 0))) := by rw [HV5.out]; simp
        have HV6 := Lib.hid hv6
        clear hv6
        go_wp2_with fail
        refine (HPR.out _).mono ?_
        rintro e w3 ⟨rfl, hb3⟩
        obtain ⟨c0, c1⟩ := (HK3.out.on hb3).two
        have cl := (HK3.out.on hb3).lt
        have HB3 := Lib.hid (below_then (below_then HB2.out HBR.out) hb3)
        clear hb3 HPR
        by_cases h9 : sp = 0
        ·have g9 : (sp != 0) = false := by simpa using h9
         by_cases h10 : pn = 0
         ·have ga : ((pn : Int) == 0) = true := by simp; omega
          have HF : Hid (valid sp l = true) := Lib.hid (by rw [HV6.out]; simp [h10])
          clear h9 h10
          go_wp2_with fail
          go_ret
          exact ⟨ret_bool HF.out.symm, HB3.out⟩
         ·have ga : ((pn : Int) == 0) = false := by simp; omega
          have HF : Hid (valid sp l = false) := Lib.hid (by rw [HV6.out]; simp [h9, h10])
          clear h9 h10
          go_wp2_with fail
          go_ret
          exact ⟨ret_bool HF.out.symm, HB3.out⟩
        ·have g9 : (sp != 0) = true := by simpa using h9
         have HF : Hid (valid sp l = true) := Lib.hid (by rw [HV6.out]; simp [h9])
         clear h9
         go_wp2_with fail
         go_ret
         exact ⟨ret_bool HF.out.symm, HB3.out⟩
end Go.Proofs.YthieinfonomeeaaGreatDoor
namespace Go.Proofs.YthieinfonomeeaaGreatDoor
open Go.RowKit Tit
set_option linter.unusedVariables false
attribute [local go_sem ↓] Go.wp_at_zero Go.wp_at_succ
theorem nobF_drop {p c : UInt8} {r : List UInt8} (h : c = 32 ∧ (p = 47 ∨ r.head? = some 47)) : nobF p (c :: r) = nobF c r := by rw [nobF, if_pos h]
theorem nobF_keep {p c : UInt8} {r : List UInt8} (h : ¬ (c = 32 ∧ (p = 47 ∨ r.head? = some 47))) : nobF p (c :: r) = c :: nobF c r := by rw [nobF, if_neg h]
theorem aft_preI (R : List UInt8) : ((preI R).1 = 0 ∧ aft R = (0, R)) ∨ (1 ≤ (preI R).1 ∧ (preI R).1 ≤ 5 ∧ (preI R).2 < R.length ∧ aft R = ((preI R).1, dropOne (R.drop ((preI R).2 + 1)))) := by
 unfold aft
 rcases pre_preI R with ⟨h1, h2⟩ | ⟨n, k, h1, h2, h3, h4, h5⟩
 ·rw [h1, h2]; exact .inl ⟨rfl, rfl⟩
 ·rw [h1, h2]; exact .inr ⟨h3, h4, h5, rfl⟩
set_option maxRecDepth 10000 in
set_option maxHeartbeats 4000000 in
theorem rparse_any (s : ByteArray) (w : World) (hs : s.size ≤ 100000000) : Calls Tryz.prog 136 #[.string s] w fun e w' =>
  e = .returned (.tuple #[.agg #[.int .i64 (parse s.data.toList).1, .string ⟨(parse s.data.toList).2.1.toArray⟩], .int .i64 (parse s.data.toList).2.2]) ∧ Below w.heap.size w w' := by
 have hz : s.data.toList.length = s.size := by simp
 have hbl := fun W => blanks_any s W (by omega)
 obtain ⟨l, hl⟩ : ∃ l, l = s.data.toList := ⟨_, rfl⟩
 rw [← hl] at hbl hz ⊢
 have hql := sq_len l
 have hrl := rawS_len l
 obtain ⟨hal, ha5⟩ := aft_len (rawS l)
 have hraw : rawS l = if (sq l).head? = some 58 then dropOne (sq l).tail else sq l := rfl
 have hpar : parse l = if 100 < (rawT l).2.length then (0, [], 3) else if valid (rawT l).1 (rawT l).2 then ((rawT l).1, (rawT l).2, 0) else (0, [], 1) := rfl
 rw [rawT_aft] at hpar
 obtain ⟨Q, hQ⟩ : ∃ Q : ByteArray, Q = ⟨(sq l).toArray⟩ := ⟨_, rfl⟩
 have hQd : sq l = Q.data.toList := by rw [hQ]
 have hQz : Q.data.toList.length = Q.size := by simp
 rw [← hQ] at hbl
 rw [hQd] at hql hraw
 obtain ⟨R, hR⟩ : ∃ R : ByteArray, R = ⟨(rawS l).toArray⟩ := ⟨_, rfl⟩
 have hRd : rawS l = R.data.toList := by rw [hR]
 have hRz : R.data.toList.length = R.size := by simp
 rw [hRd] at hrl hal ha5 hraw hpar
 have HBL := Lib.hid hbl
 have HRAW := Lib.hid hraw
 have HPAR := Lib.hid hpar
 have hR0 := Known.made w 54 #[.int .i64 0, .string ⟨#[]⟩]
 have HK0 := Lib.hid hR0
 have HB0 := Lib.hid (below_new0 w (.cells #[.int .i64 0, .string ⟨#[]⟩] 54))
 clear hbl hraw hpar hR0 hl hQ hQd hR hRd
 go_enter Tryz.func136, Tryz.ntmps136
 go_wp2_with fail
 refine (HBL.out _).mono ?_
 rintro e w1 ⟨rfl, hw1⟩
 rw [hw1] at HK0 HB0
 clear hw1 HBL
 obtain ⟨bq, hbq⟩ : ∃ bq, bq = decide (Q.data.toList.head? = some 58) := ⟨_, rfl⟩
 have HBQ := Lib.hid hbq
 clear hbq
 go_upto_region 2 with fail
 go_cut [0, 18] from 10 to 18 (fun s0 s18 wc => s0 = .string Q ∧ s18 = .bool bq ∧ w1 = wc)
 case first =>
  by_cases h0 : Q.size = 0
  ·have g0 : decide (0 < Q.size) = false := decide_eq_false (by omega)
   have hbt : bq = false := by
    rw [HBQ.out, List.length_eq_zero_iff.1 (hQz.trans h0)]; rfl
   subst hbt
   clear h0
   go_wp2_with fail
   go_meet
   case rel => exact ⟨rfl, rfl, rfl⟩
  ·have g0 : decide (0 < Q.size) = true := decide_eq_true (by omega)
   have g00 : 0 < Q.size := by omega
   have hh := head_at Q g00
   have a1 : Q[0] = 58 ↔ Q[0].toNat = 58 := u8_eq (by decide)
   have hbt : ((Q[0].toNat : Int) == 58) = bq := by
    rw [HBQ.out, hh, Bool.eq_iff_iff]
    simp only [beq_iff_eq, decide_eq_true_eq, Option.some.injEq]
    rw [a1]; omega
   have HBT := Lib.hid hbt
   clear h0 hh a1 hbt
   go_wp2_with fail
   go_meet
   case rel => exact ⟨rfl, by rw [HBT.out], rfl⟩
 case rest =>
  obtain ⟨rfl, rfl, rfl⟩ := hcut
  go_upto_if 18 with fail
  go_cut [0] from 19 to 20 (fun s0 wc => s0 = .string R ∧ w1 = wc)
  case first =>
   cases bq with
   | true =>
     have h58 : Q.data.toList.head? = some 58 := by have := HBQ.out; simpa using this.symm
     have h1 : 1 ≤ Q.size := by rw [← hQz]; cases hq : Q.data.toList with | nil => rw [hq] at h58; simp at h58 | cons => simp
     have hc := fun W => cut_any Q 1 W (by omega) h1
     have hRe : (⟨(dropOne (Q.data.toList.drop 1)).toArray⟩ : ByteArray) = R := bytes_ext (by rw [data_mk, HRAW.out, if_pos h58, List.drop_one])
     rw [hRe] at hc
     have HC := Lib.hid hc
     clear h58 hc hRe
     go_wp2_with fail
     refine (HC.out _).mono ?_
     rintro e w2 ⟨rfl, rfl⟩
     go_wp2_with fail
     go_meet
     case rel => exact ⟨rfl, rfl⟩
   | false =>
     have h58 : ¬ Q.data.toList.head? = some 58 := by have := HBQ.out; simpa using this.symm
     have hRe : Q = R := bytes_ext (by rw [HRAW.out, if_neg h58])
     have HR := Lib.hid hRe
     clear h58 hRe
     go_wp2_with fail
     go_meet
     case rel => exact ⟨by rw [HR.out], rfl⟩
  case rest =>
   obtain ⟨rfl, rfl⟩ := hcut
   clear HRAW HBQ hQz hql
   have hP := fun W => prefixed_any R W (by omega)
   have hA := aft_preI R.data.toList
   obtain ⟨pn, hpn⟩ : ∃ pn, pn = (preI R.data.toList).1 := ⟨_, rfl⟩
   obtain ⟨pk, hpk⟩ : ∃ pk, pk = (preI R.data.toList).2 := ⟨_, rfl⟩
   rw [← hpn, ← hpk] at hP hA
   obtain ⟨S, hS⟩ : ∃ S : ByteArray, S = ⟨((aft R.data.toList).2).toArray⟩ := ⟨_, rfl⟩
   have hSd : (aft R.data.toList).2 = S.data.toList := by rw [hS]
   have hn1 : (aft R.data.toList).1 = pn := by
    rcases hA with ⟨h1, h2⟩ | ⟨_, _, _, h2⟩
    ·rw [h2, h1]
    ·rw [h2]
   rw [hSd] at hal HPAR
   rw [hn1] at ha5 HPAR
   have HP := Lib.hid hP
   have HA := Lib.hid hA
   have HSD := Lib.hid hSd
   clear hP hA hS hSd hn1 hpn hpk
   go_wp2_with fail
   refine (HP.out _).mono ?_
   rintro e w2 ⟨rfl, hb2⟩
   have HK2 := Lib.hid (HK0.out.on hb2)
   have HB2 := Lib.hid (below_then HB0.out hb2)
   clear hb2 HP HK0 HB0
   obtain ⟨bn, hbn⟩ : ∃ bn, decide (0 < pn) = bn := ⟨_, rfl⟩
   go_upto_if 27 with fail
   go_cut [0] from 28 to 31 (fun s0 wc => s0 = .string S ∧ w2 = wc)
   case first =>
    cases bn with
    | false =>
      have h0 : pn = 0 := by simpa using hbn
      have hRS : R = S := bytes_ext (by
       rw [← HSD.out]
       rcases HA.out with ⟨_, h2⟩ | ⟨h1, _⟩
       ·rw [h2]
       ·omega)
      have HRS := Lib.hid hRS
      clear h0 hRS
      go_wp2_with fail
      go_meet
      case rel => exact ⟨by rw [HRS.out], rfl⟩
    | true =>
      have h0 : ¬ pn = 0 := by simp at hbn; omega
      have hx : pk < R.size ∧ S = ⟨(dropOne (R.data.toList.drop (pk + 1))).toArray⟩ := by
       rcases HA.out with ⟨h1, _⟩ | ⟨_, _, h3, h4⟩
       ·exact absurd h1 h0
       ·exact ⟨by omega, bytes_ext (by rw [data_mk, ← HSD.out, h4])⟩
      obtain ⟨hx1, hx2⟩ := hx
      have hc := fun W => cut_any R (pk + 1) W (by omega) (by omega)
      rw [← hx2] at hc
      have HC := Lib.hid hc
      clear h0 hc hx2
      go_wp2_with fail
      refine (HC.out _).mono ?_
      rintro e w3 ⟨rfl, rfl⟩
      go_wp2_with fail
      go_meet
      case rel => exact ⟨rfl, rfl⟩
   case rest =>
    obtain ⟨rfl, rfl⟩ := hcut
    clear HA HSD hbn
    have hdb := drop_byte S
    have hby2 : ∀ k (hk : k < S.size), ∃ h : k < S.data.toList.length, S[k] = S.data.toList[k] := byte_at S
    have hod := one_data S
    have hSz : S.data.toList.length = S.size := by simp
    obtain ⟨L, hL⟩ : ∃ L, L = S.data.toList := ⟨_, rfl⟩
    have hby : ∀ k (hk : k < S.size), ∃ h : k < L.length, S[k] = L[k] := by rw [hL]; exact hby2
    clear hby2
    rw [← hL] at hdb HPAR hSz hal
    have HDB := Lib.hid hdb
    have HBY := Lib.hid hby
    have HOD := Lib.hid hod
    clear hdb hby hod hL
    have hSs : S.size ≤ 100000000 := by omega
    clear hal hs hRz hrl hz
    have hNl := nob_length L 0
    have hnb : nobF 0 L = nob L := rfl
    go_wp2_with fail
    go_loopg [6, 7] (S.size + 1) (fun g s6 s7 wr => ∃ (i : Nat) (o : ByteArray), i ≤ S.size ∧ S.size < i + g ∧ s6 = .string o ∧ s7 = .int .i64 i ∧ o.size ≤ i ∧ nob L = o.data.toList ++ nobF (prv L i) (L.drop i) ∧ w2 = wr)
    case atStart => exact ⟨0, ⟨#[]⟩, by omega, by omega, rfl, rfl, by decide, by simp [prv]; rfl, rfl⟩
    case round =>
     obtain ⟨i, o, hi1, hg, rfl, rfl, ho, hq, rfl⟩ := hrel
     have HQ := Lib.hid hq
     clear hq
     by_cases hin : i < S.size
     ·have g1 : decide (i < S.size) = true := decide_eq_true hin
      have hdi := HDB.out i hin
      have hoi := HOD.out i hin
      have h32 : S[i] = 32 ↔ S[i].toNat = 32 := u8_eq (by decide)
      obtain ⟨hil, hib⟩ := HBY.out i hin
      have hpr := prv_succ L i hil
      rw [← hib] at hpr
      obtain ⟨c, hc⟩ : ∃ c, S[i] = c := ⟨_, rfl⟩
      rw [hc] at hdi hoi h32 hpr
      obtain ⟨x, hx⟩ : ∃ x, S[i].toNat = x := ⟨_, rfl⟩
      have hcx : c.toNat = x := by rw [← hc]; exact hx
      rw [hcx] at h32
      obtain ⟨b, hb⟩ : ∃ b, b = decide (c = 32 ∧ (prv L i = 47 ∨ (L.drop (i + 1)).head? = some 47)) := ⟨_, rfl⟩
      have HB := Lib.hid hb
      have HDI := Lib.hid hdi
      have HOI := Lib.hid hoi
      have H32 := Lib.hid h32
      have HPR := Lib.hid hpr
      clear hdi hoi h32 hil hib hpr hc hcx hb
      go_upto_region 11 with fail
      go_cut [66] from 38 to 66 (fun s66 wc => s66 = .bool b ∧ w2 = wc)
      case first =>
       by_cases h1 : x = 32
       ·have g2 : ((x : Int) == 32) = true := by simp; omega
        have hbb : b = decide (prv L i = 47 ∨ (L.drop (i + 1)).head? = some 47) := by
         rw [HB.out]; simp [H32.out.2 h1]
        have HBB := Lib.hid hbb
        clear h1 hbb
        by_cases h0 : i = 0
        ·subst h0
         have hpv : prv L 0 ≠ 47 := by simp [prv]
         by_cases hr : 0 + 1 < S.size
         ·have g3 : decide ((0 : Int) + 1 < (S.size : Int)) = true := decide_eq_true (by omega)
          have hr1 : 1 < S.size := by omega
          obtain ⟨h1l, h1b⟩ := HBY.out 1 hr1
          have h47 : S[1] = 47 ↔ S[1].toNat = 47 := u8_eq (by decide)
          have hbt : ((S[1].toNat : Int) == 47) = b := by
           rw [HBB.out, Bool.eq_iff_iff, List.head?_drop, List.getElem?_eq_getElem h1l, ← h1b]
           simp only [beq_iff_eq, decide_eq_true_eq, hpv, false_or, Option.some.injEq]
           rw [h47]; omega
          have HBT := Lib.hid hbt
          clear h1l h1b h47 hbt hpv hr
          go_wp2_with fail
          go_meet
          case rel => exact ⟨by rw [HBT.out], rfl⟩
         ·have g3 : decide ((0 : Int) + 1 < (S.size : Int)) = false := decide_eq_false (by omega)
          have hbt : b = false := by
           rw [HBB.out, List.drop_eq_nil_of_le (by omega)]; simp [hpv]
          subst hbt
          clear hpv
          go_wp2_with fail
          go_meet
          case rel => exact ⟨rfl, rfl⟩
        ·obtain ⟨m, rfl⟩ : ∃ m, i = m + 1 := ⟨i - 1, by omega⟩
         have ga : decide ((0 : Int) < ((m + 1 : Nat) : Int)) = true := by rw [decide_eq_true_eq]; omega
         have hms : m < S.size := by omega
         obtain ⟨hml, hbm⟩ := HBY.out m hms
         have hpm := prv_succ L m hml
         have h47' : prv L (m + 1) = 47 ↔ (prv L (m + 1)).toNat = 47 := u8_eq (by decide)
         obtain ⟨y, hy⟩ : ∃ y, S[m].toNat = y := ⟨_, rfl⟩
         have hy2 : (prv L (m + 1)).toNat = y := by rw [hpm, ← hbm]; exact hy
         rw [hy2] at h47'
         have H47 := Lib.hid h47'
         clear hml hbm hpm hy2 h47' h0
         by_cases h2 : y = 47
         ·have g3 : ((y : Int) == 47) = true := by simp; omega
          have hbt : b = true := by rw [HBB.out]; simp [H47.out.2 h2]
          subst hbt
          clear h2
          go_wp2_with fail
          go_meet
          case rel => exact ⟨rfl, rfl⟩
         ·have g3 : ((y : Int) == 47) = false := by simp; omega
          have hpv : prv L (m + 1) ≠ 47 := fun e => h2 (H47.out.1 e)
          by_cases hr : m + 1 + 1 < S.size
          ·have g4 : decide ((m : Int) + 1 + 1 < (S.size : Int)) = true := decide_eq_true (by omega)
           obtain ⟨h1l, h1b⟩ := HBY.out (m + 1 + 1) hr
           have h47 : S[m + 1 + 1] = 47 ↔ S[m + 1 + 1].toNat = 47 := u8_eq (by decide)
           have hbt : ((S[m + 1 + 1].toNat : Int) == 47) = b := by
            rw [HBB.out, Bool.eq_iff_iff, List.head?_drop, List.getElem?_eq_getElem h1l, ← h1b]
            simp only [beq_iff_eq, decide_eq_true_eq, hpv, false_or, Option.some.injEq]
            rw [h47]; omega
           have HBT := Lib.hid hbt
           clear h1l h1b h47 hbt hpv h2
           go_wp2_with fail
           go_meet
           case rel => exact ⟨by rw [HBT.out], rfl⟩
          ·have g4 : decide ((m : Int) + 1 + 1 < (S.size : Int)) = false := decide_eq_false (by omega)
           have hbt : b = false := by
            rw [HBB.out, List.drop_eq_nil_of_le (by omega)]; simp [hpv]
           subst hbt
           clear hpv h2
           go_wp2_with fail
           go_meet
           case rel => exact ⟨rfl, rfl⟩
       ·have g2 : ((x : Int) == 32) = false := by simp; omega
        have hbt : b = false := by
         rw [HB.out]; exact decide_eq_false (fun h => h1 (H32.out.1 h.1))
        subst hbt
        clear h1
        go_wp2_with fail
        go_meet
        case rel => exact ⟨rfl, rfl⟩
      case rest =>
       obtain ⟨rfl, rfl⟩ := hcut
       cases b with
       | true =>
         have hn : nob L = o.data.toList ++ nobF (prv L (i + 1)) (L.drop (i + 1)) := by rw [HQ.out, HDI.out, nobF_drop (by simpa using HB.out.symm), HPR.out]
         have HN := Lib.hid hn
         clear hn
         go_wp2_with fail
         go_roundg (S.size - i)
         case measure => omega
         case rel => exact ⟨i + 1, o, by omega, by omega, rfl, by go_num, by omega, HN.out, rfl⟩
       | false =>
         have hn : nob L = (o ++ S.extract i (i + 1)).data.toList ++ nobF (prv L (i + 1)) (L.drop (i + 1)) := by rw [HQ.out, HDI.out, nobF_keep (by simpa using HB.out.symm), HPR.out, app_data, HOI.out]; simp
         have HN := Lib.hid hn
         have hEz : (S.extract i (i + 1)).size = 1 := by rw [ByteArray.size_extract]; omega
         have hoU : (o ++ S.extract i (i + 1)).size ≤ i + 1 := by rw [ByteArray.size_append]; omega
         have HOU := Lib.hid hoU
         clear hn hoU
         go_wp2_with fail
         go_roundg (S.size - i)
         case measure => omega
         case rel => exact ⟨i + 1, o ++ S.extract i (i + 1), by omega, by omega, rfl, by go_num, HOU.out, HN.out, rfl⟩
     ·have g1 : decide (i < S.size) = false := decide_eq_false hin
      have hno : nob L = o.data.toList := by rw [HQ.out, List.drop_eq_nil_of_le (by omega)]; simp [nobF]
      rw [hno] at HPAR
      clear hno HQ hnb hNl
      have hos : o.size ≤ 100000000 := by omega
      obtain ⟨M, hM⟩ : ∃ M, M = o.data.toList := ⟨_, rfl⟩
      have hMz : M.length = o.size := by rw [hM]; simp
      rw [← hM] at HPAR
      have HXM := Lib.hid hM.symm
      obtain ⟨bu, hbu⟩ : ∃ bu : Bool, bu = (M.head?.any fun c => decide (97 ≤ c.toNat) && decide (c.toNat ≤ 122)) := ⟨_, rfl⟩
      have HBU := Lib.hid hbu
      clear hM hbu HDB HBY HOD hSz
      go_upto_region 13 with fail
      go_cut [86] from 74 to 86 (fun s86 wc => s86 = .bool bu ∧ w2 = wc)
      case first =>
       by_cases h0 : o.size = 0
       ·have g0 : decide (0 < o.size) = false := decide_eq_false (by omega)
        have hbf : bu = false := by rw [HBU.out, List.length_eq_zero_iff.1 (hMz.trans h0)]; rfl
        subst hbf
        clear h0
        go_wp2_with fail
        go_meet
        case rel => exact ⟨rfl, rfl⟩
       ·have g0 : decide (0 < o.size) = true := decide_eq_true (by omega)
        have hX0 : 0 < o.size := by omega
        have hh := head_at o hX0
        rw [HXM.out] at hh
        have hbv := HBU.out
        rw [hh, Option.any_some] at hbv
        obtain ⟨x, hx⟩ : ∃ x, o[0].toNat = x := ⟨_, rfl⟩
        rw [hx] at hbv
        have HBV := Lib.hid hbv
        clear h0 hh hbv
        by_cases h1 : 97 ≤ x
        ·have g2 : decide ((97 : Int) ≤ (x : Int)) = true := by simp; omega
         by_cases h2 : x ≤ 122
         ·have g3 : decide ((x : Int) ≤ 122) = true := by simp; omega
          have hbf : bu = true := by rw [HBV.out]; simp [h1, h2]
          subst hbf
          clear h1 h2
          go_wp2_with fail
          go_meet
          case rel => exact ⟨rfl, rfl⟩
         ·have g3 : decide ((x : Int) ≤ 122) = false := by simp; omega
          have hbf : bu = false := by rw [HBV.out]; simp [h2]
          subst hbf
          clear h1 h2
          go_wp2_with fail
          go_meet
          case rel => exact ⟨rfl, rfl⟩
        ·have g2 : decide ((97 : Int) ≤ (x : Int)) = false := by simp; omega
         have hbf : bu = false := by rw [HBV.out]; simp [h1]
         subst hbf
         clear h1
         go_wp2_with fail
         go_meet
         case rel => exact ⟨rfl, rfl⟩
      case rest =>
       obtain ⟨rfl, rfl⟩ := hcut
       obtain ⟨Y, hY⟩ : ∃ Y : ByteArray, Y = ⟨(upc M).toArray⟩ := ⟨_, rfl⟩
       have HY := Lib.hid hY
       clear hY
       go_upto_if 86 with fail
       go_cut [6] from 86 to 94 (fun s6 wc => s6 = .string Y ∧ Below w2.heap.size w2 wc)
       case first =>
        cases bu with
        | false =>
          have hup : upc M = M := by
           have h := HBU.out
           cases M with
           | nil => rfl
           | cons c r =>
             simp only [List.head?_cons, Option.any_some] at h
             have h' := h.symm
             rw [upc_cons, if_neg]
             rintro ⟨a1, a2⟩
             have b1 : 97 ≤ c.toNat := UInt8.le_iff_toNat_le.1 a1
             have b2 : c.toNat ≤ 122 := UInt8.le_iff_toNat_le.1 a2
             rw [decide_eq_true b1, decide_eq_true b2] at h'
             cases h'
          have HUP := Lib.hid hup
          clear hup
          go_wp2_with fail
          go_meet
          case rel => exact ⟨congrArg Value.string (bytes_ext (by rw [HY.out, data_mk, HUP.out]; exact HXM.out)), Below.refl _ _⟩
        | true =>
          have h := HBU.out
          cases M with
          | nil => simp at h
          | cons c r =>
            have hX0 : 0 < o.size := by rw [← hMz]; simp
            have hh := head_at o hX0
            rw [HXM.out, List.head?_cons] at hh
            injection hh with hh
            simp only [List.head?_cons, Option.any_some] at h
            have h' := h.symm
            simp only [Bool.and_eq_true, decide_eq_true_eq] at h'
            obtain ⟨b1, b2⟩ := h'
            obtain ⟨x, hx⟩ : ∃ x, o[0].toNat = x := ⟨_, rfl⟩
            have hcx : c.toNat = x := by rw [hh]; exact hx
            rw [hcx] at b1 b2
            have hup : upc (c :: r) = (c - 32) :: r := by
             rw [upc_cons, if_pos ⟨UInt8.le_iff_toNat_le.2 (by rw [hcx]; exact b1), UInt8.le_iff_toNat_le.2 (by rw [hcx]; exact b2)⟩]
            have hsub : ((c - 32).toNat : Int) = (x : Int) - 32 := by
             rw [UInt8.toNat_sub_of_le _ _ (UInt8.le_iff_toNat_le.2 (by rw [hcx]; show 32 ≤ x; omega)), hcx]
             show ((x - 32 : Nat) : Int) = _
             omega
            have hk := Known.made w2 5 #[.int .u8 ((x : Int) - 32)]
            have hBI : BIn (w2.alloc (.cells #[.int .u8 ((x : Int) - 32)] 5)).drew w2.heap.size [c - 32] := by
             refine ⟨hk.lt, fun j hj => ?_⟩
             have : j = 0 := by simpa using hj
             subst this
             refine ⟨?_, hk.free 0⟩
             have h1 := hk.cell 0
             simp only [List.getElem_cons_zero]
             rw [hsub]
             exact h1
            have hconv := conv_from hBI 1 1 rfl
            have hwr : IntKind.u8.wrap ((x : Int) - 32) = (x : Int) - 32 := by
             unfold IntKind.wrap
             simp [IntKind.bits]
             omega
            have hres : (⟨#[c - 32]⟩ : ByteArray) ++ o.extract 1 o.size = Y := by
             rw [HY.out, hup, Lib.extract_from, HXM.out]
             apply ByteArray.ext
             simp
            have hno : ¬ (9223372036854775807 < (1 : Nat) + (o.size - 1)) := by omega
            have HRES := Lib.hid hres
            have H1 : (1 : Int) ≤ (o.size : Int) := by omega
            clear hres hh h hcx hup hsub hk hBI HXM HBU b1 b2
            go_wp2_with fail
            go_region
            go_wp2_with fail
            go_meet
            case rel => exact ⟨congrArg Value.string HRES.out, ((Below.refl _ _).alloc (Nat.le_refl _) _).drew⟩
       case rest =>
        obtain ⟨rfl, hb8⟩ := hcut
        have hul := upc_len M
        obtain ⟨U, hU⟩ : ∃ U, U = upc M := ⟨_, rfl⟩
        rw [← hU] at hul HPAR HY
        have hYU : Y.data.toList = U := by rw [HY.out]
        have hYz : Y.size = U.length := by rw [HY.out, Lib.size_mk]
        have hUl : U.length ≤ 100000000 := by omega
        obtain ⟨k0, k1⟩ := (HK2.out.on hb8).two
        have kf0 := (HK2.out.on hb8).free 0
        have kf1 := (HK2.out.on hb8).free 1
        have kl := (HK2.out.on hb8).lt
        have HK8 := Lib.hid (HK2.out.on hb8)
        have HB8 := Lib.hid (below_then HB2.out hb8)
        have HYU := Lib.hid hYU
        clear hb8 HK2 HB2 hU hYU HXM HBU
        by_cases hbig : 100 < U.length
        ·have g2 : decide ((100 : Int) < (Y.size : Int)) = true := by simp; omega
         have g3 : 100 < Y.size := by omega
         have HP : Hid (parse l = (0, [], 3)) := Lib.hid (by rw [HPAR.out, if_pos hbig])
         clear hbig
         go_wp2_with fail
         have c0 := ((HK8.out.put 0 (.int .i64 0)).two).1
         have c1 := (((HK8.out.put 0 (.int .i64 0)).put 1 (.string ⟨#[]⟩)).two).2
         exact bodyPost_ret (v := .tuple #[.agg #[.int .i64 0, .string ⟨#[]⟩], .int .i64 3]) (by simp [results, Tryz.results136, go_sem, c0, c1]) rfl ⟨by rw [HP.out]; rfl, (HB8.out.setCell (p := ⟨w.heap.size, 0, none⟩) (Nat.le_refl _) _).setCell (p := ⟨w.heap.size, 1, none⟩) (Nat.le_refl _) _⟩
        ·have g2 : decide ((100 : Int) < (Y.size : Int)) = false := by simp; omega
         have g3 : ¬ 100 < Y.size := by omega
         have hp := HPAR.out
         rw [if_neg hbig] at hp
         have HP := Lib.hid hp
         clear hp HPAR hbig
         have hVA := fun W => rvalid_any (pn : Int) Y W (by omega)
         rw [HYU.out] at hVA
         have HVA := Lib.hid hVA
         generalize hva : valid (pn : Int) U = va at HVA HP
         clear hVA hva
         go_wp2_with fail
         refine (HVA.out _).mono ?_
         rintro e w10 ⟨rfl, hb10⟩
         have hT10 := (Known.made wc 54 #[.int .i64 (pn : Int), .string Y]).on hb10
         have hK10 := (HK8.out.alloc (.cells #[.int .i64 (pn : Int), .string Y] 54)).on hb10
         have HB10 := Lib.hid (below_then (below_then HB8.out (below_new0 wc (.cells #[.int .i64 (pn : Int), .string Y] 54))) hb10)
         obtain ⟨x0, x1⟩ := hT10.two
         have xl := hT10.lt
         obtain ⟨y0, y1⟩ := hK10.two
         have yf0 := hK10.free 0
         have yf1 := hK10.free 1
         have yl := hK10.lt
         have HK10 := Lib.hid hK10
         clear hT10 hK10 hb10 k0 k1 kf0 kf1 kl HK8 HB8 HVA
         cases va with
         | false =>
           have HP2 : Hid (parse l = (0, [], 1)) := Lib.hid (by rw [HP.out]; rfl)
           go_wp2_with fail
           have c0 := ((HK10.out.put 0 (.int .i64 0)).two).1
           have c1 := (((HK10.out.put 0 (.int .i64 0)).put 1 (.string ⟨#[]⟩)).two).2
           exact bodyPost_ret (v := .tuple #[.agg #[.int .i64 0, .string ⟨#[]⟩], .int .i64 1]) (by simp [results, Tryz.results136, go_sem, c0, c1]) rfl ⟨by rw [HP2.out]; rfl, (HB10.out.setCell (p := ⟨w.heap.size, 0, none⟩) (Nat.le_refl _) _).setCell (p := ⟨w.heap.size, 1, none⟩) (Nat.le_refl _) _⟩
         | true =>
           have HP2 : Hid (parse l = (pn, U, 0)) := Lib.hid (by rw [HP.out]; rfl)
           have HYE : Hid (Y = ⟨U.toArray⟩) := Lib.hid HY.out
           go_wp2_with fail
           have c0 := ((HK10.out.put 0 (.int .i64 (pn : Int))).two).1
           have c1 := (((HK10.out.put 0 (.int .i64 (pn : Int))).put 1 (.string Y)).two).2
           exact bodyPost_ret (v := .tuple #[.agg #[.int .i64 (pn : Int), .string Y], .int .i64 0]) (by simp [results, Tryz.results136, go_sem, c0, c1]) rfl ⟨by rw [HP2.out, HYE.out]; rfl, (HB10.out.setCell (p := ⟨w.heap.size, 0, none⟩) (Nat.le_refl _) _).setCell (p := ⟨w.heap.size, 1, none⟩) (Nat.le_refl _) _⟩
end Go.Proofs.YthieinfonomeeaaGreatDoor
namespace Go.Proofs.YthieinfonomeeaaGreatDoor
open Go.RowKit Tit Inl
set_option linter.unusedVariables false
attribute [local go_sem ↓] Go.wp_at_zero Go.wp_at_succ
set_option maxRecDepth 10000 in
theorem before_any (s : ByteArray) (c : UInt8) (w : World) (hs : s.size ≤ 100000000) : Calls Tryz.prog 134 #[.string s, .string ⟨#[c]⟩] w fun e w' => e = .returned (.string ⟨(bef c s.data.toList).toArray⟩) ∧ w = w' := by
 have hz : s.data.toList.length = s.size := by simp
 have hI := fun W => index_any s ⟨#[c]⟩ 0 W (by omega) (by show 1 ≤ 1000000000; decide) (by show 1 ≤ 1; decide) (by omega)
 have hidx : idx s.data.toList (⟨#[c]⟩ : ByteArray).data.toList 0 = if (bef c s.data.toList).length = s.data.toList.length then -1 else ((bef c s.data.toList).length : Int) := by
  have : (⟨#[c]⟩ : ByteArray).data.toList = [c] := rfl
  unfold bef
  rw [this, idx, List.drop_zero, index_byte]
  split
  ·rfl
  ·rw [if_neg (by omega)]; simp
 rw [hidx] at hI
 have htl := bef_le c s.data.toList
 have htk : s.data.toList.take (bef c s.data.toList).length = bef c s.data.toList := take_tw c s.data.toList
 obtain ⟨T, hT⟩ : ∃ T, T = bef c s.data.toList := ⟨_, rfl⟩
 rw [← hT] at hI htl htk ⊢
 by_cases hno : T.length = s.data.toList.length
 ·rw [if_pos hno] at hI
  have hr : s = ⟨T.toArray⟩ := bytes_ext (by rw [data_mk, ← htk, hno, List.take_length])
  have HR := Lib.hid hr
  have HI := Lib.hid hI
  clear hI hno hidx htk htl hT hr
  go_enter Tryz.func134, Tryz.ntmps134
  go_wp2_with fail
  refine (HI.out _).mono ?_
  rintro e w1 ⟨rfl, rfl⟩
  go_wp2_with fail
  go_ret
  exact ⟨congrArg (fun x => Ending.returned (Value.string x)) HR.out, rfl⟩
 ·rw [if_neg hno] at hI
  obtain ⟨k, hk⟩ : ∃ k, k = T.length := ⟨_, rfl⟩
  rw [← hk] at hI htk htl
  have hks : k ≤ s.size := by omega
  have hr : s.extract 0 k = ⟨T.toArray⟩ := bytes_ext (by rw [data_mk, Lib.extract_from_zero, htk])
  have HR := Lib.hid hr
  have HI := Lib.hid hI
  clear hI hno hidx htk htl hT hr hk
  go_enter Tryz.func134, Tryz.ntmps134
  go_wp2_with fail
  refine (HI.out _).mono ?_
  rintro e w1 ⟨rfl, rfl⟩
  go_wp2_with fail
  go_ret
  exact ⟨congrArg (fun x => Ending.returned (Value.string x)) HR.out, rfl⟩
theorem ws4_eq (c : UInt8) : ws4 c = (decide (c.toNat = 9) || decide (c.toNat = 10) || decide (c.toNat = 13) || decide (c.toNat = 32)) := by
 have a1 : c = 9 ↔ c.toNat = 9 := u8_eq (by decide)
 have a2 : c = 10 ↔ c.toNat = 10 := u8_eq (by decide)
 have a3 : c = 13 ↔ c.toNat = 13 := u8_eq (by decide)
 have a4 : c = 32 ↔ c.toNat = 32 := u8_eq (by decide)
 unfold ws4
 rw [Bool.eq_iff_iff]
 simp [a1, a2, a3, a4]
set_option maxRecDepth 10000 in
theorem rspace_any (c : UInt8) (w : World) : Calls Tryz.prog 131 #[.int .u8 (c.toNat : Int)] w fun e w' => e = .returned (.bool (ws4 c)) ∧ w = w' := by
 rw [ws4_eq]
 have hx8 := c.toNat_lt
 generalize c.toNat = x at *
 go_enter Tryz.func131, Tryz.ntmps131
 by_cases h1 : x = 9
 ·have g1 : ((x : Int) == 9) = true := by simp; omega
  have HR : Hid (true = (decide (x = 9) || decide (x = 10) || decide (x = 13) || decide (x = 32))) := Lib.hid (by simp [h1])
  clear h1
  go_wp2_with fail
  go_ret
  exact ⟨ret_bool HR.out, rfl⟩
 have g1 : ((x : Int) == 9) = false := by simp; omega
 by_cases h2 : x = 10
 ·have g2 : ((x : Int) == 10) = true := by simp; omega
  have HR : Hid (true = (decide (x = 9) || decide (x = 10) || decide (x = 13) || decide (x = 32))) := Lib.hid (by simp [h2])
  clear h1 h2
  go_wp2_with fail
  go_ret
  exact ⟨ret_bool HR.out, rfl⟩
 have g2 : ((x : Int) == 10) = false := by simp; omega
 by_cases h3 : x = 13
 ·have g3 : ((x : Int) == 13) = true := by simp; omega
  have HR : Hid (true = (decide (x = 9) || decide (x = 10) || decide (x = 13) || decide (x = 32))) := Lib.hid (by simp [h3])
  clear h1 h2 h3
  go_wp2_with fail
  go_ret
  exact ⟨ret_bool HR.out, rfl⟩
 have g3 : ((x : Int) == 13) = false := by simp; omega
 have hr : ((x : Int) == 32) = (decide (x = 9) || decide (x = 10) || decide (x = 13) || decide (x = 32)) := by
  rw [Bool.eq_iff_iff]; simp [h1, h2, h3]; omega
 have HR := Lib.hid hr
 clear h1 h2 h3 hr
 go_wp2_with fail
 go_ret
 exact ⟨ret_bool HR.out, rfl⟩
theorem first_cons (X : ByteArray) (h : 0 < X.size) : X.data.toList = X[0] :: (X.extract 1 X.size).data.toList := by
 have := drop_byte X 0 h
 rw [List.drop_zero] at this
 rw [this, Lib.extract_to_end]
theorem last_snoc (X : ByteArray) (m : Nat) (h : X.size = m + 1) : X.data.toList = (X.extract 0 m).data.toList ++ [X[m]'(by omega)] := by
 have hz : X.data.toList.length = X.size := by simp
 have h1 := one_data X m (by omega)
 rw [Lib.extract_from_zero]
 have e := List.take_append_drop m X.data.toList
 have h2 := drop_byte X m (by omega)
 rw [List.drop_eq_nil_of_le (show X.data.toList.length ≤ m + 1 by omega)] at h2
 rw [h2] at e
 exact e.symm
set_option maxRecDepth 10000 in
set_option maxHeartbeats 1000000 in
theorem rtrim_any (s : ByteArray) (w : World) (hs : s.size ≤ 100000000) : Calls Tryz.prog 105 #[.string s] w fun e w' => e = .returned (.string ⟨(trimW ws4 s.data.toList).toArray⟩) ∧ w = w' := by
 obtain ⟨l, hl⟩ : ∃ l, l = s.data.toList := ⟨_, rfl⟩
 rw [← hl]
 have htr : trimW ws4 l = ((l.dropWhile ws4).reverse.dropWhile ws4).reverse := rfl
 have HTR := Lib.hid htr
 have HL := Lib.hid hl
 clear hl htr
 go_enter Tryz.func105, Tryz.ntmps105
 go_wp2_with fail
 go_loopg [0] (s.size + 1) (fun g s0 wr => ∃ X : ByteArray, X.size < g ∧ X.size ≤ s.size ∧ s0 = .string X ∧ X.data.toList.dropWhile ws4 = l.dropWhile ws4 ∧ w = wr)
 case atStart => exact ⟨s, by omega, by omega, rfl, by rw [HL.out], rfl⟩
 case round =>
  obtain ⟨X, hXg, hXs, rfl, hq, rfl⟩ := hrel
  have HQ := Lib.hid hq
  clear hq
  obtain ⟨b, hb⟩ : ∃ b, b = (if h : 0 < X.size then ws4 X[0] else false) := ⟨_, rfl⟩
  have HB := Lib.hid hb
  clear hb
  go_upto_region 1 with fail
  go_cut [10] from 3 to 10 (fun s10 wc => s10 = .bool b ∧ w = wc)
  case first =>
   by_cases h0 : 0 < X.size
   ·have g0 : decide (0 < X.size) = true := decide_eq_true h0
    have hb := HB.out
    rw [dif_pos h0] at hb
    have hS := fun W => rspace_any X[0] W
    rw [← hb] at hS
    have HS := Lib.hid hS
    clear hS hb
    go_wp2_with fail
    refine (HS.out _).mono ?_
    rintro e w1 ⟨rfl, rfl⟩
    go_wp2_with fail
    go_meet
    case rel => exact ⟨rfl, rfl⟩
   ·have g0 : decide (0 < X.size) = false := decide_eq_false h0
    have hb := HB.out
    rw [dif_neg h0] at hb
    subst hb
    go_wp2_with fail
    go_meet
    case rel => exact ⟨rfl, rfl⟩
  case rest =>
   obtain ⟨rfl, rfl⟩ := hcut
   cases b with
   | true =>
     have h0 : 0 < X.size := by
      have := HB.out
      by_cases h : 0 < X.size
      ·exact h
      ·rw [dif_neg h] at this; cases this
     have hw : ws4 X[0] = true := by have := HB.out; rw [dif_pos h0] at this; exact this.symm
     have hnx : (X.extract 1 X.size).data.toList.dropWhile ws4 = l.dropWhile ws4 := by rw [← HQ.out, first_cons X h0, List.dropWhile_cons, hw]; rfl
     have hnz : (X.extract 1 X.size).size = X.size - 1 := by rw [ByteArray.size_extract]; omega
     have HN := Lib.hid hnx
     have HNZ := Lib.hid hnz
     clear hw hnx hnz
     go_wp2_with fail
     go_roundg (X.size)
     case measure => omega
     case rel => exact ⟨X.extract 1 X.size, by rw [HNZ.out]; omega, by rw [HNZ.out]; omega, rfl, HN.out, rfl⟩
   | false =>
     have hnw : X.data.toList.dropWhile ws4 = X.data.toList := by
      by_cases h : 0 < X.size
      ·have := HB.out
       rw [dif_pos h] at this
       rw [first_cons X h, List.dropWhile_cons, ← this]; rfl
      ·have : X.data.toList = [] := List.length_eq_zero_iff.1 (by have : X.data.toList.length = X.size := (by simp); omega)
       rw [this]; rfl
     have hx : trimW ws4 l = (X.data.toList.reverse.dropWhile ws4).reverse := by rw [HTR.out, ← HQ.out, hnw]
     have HX := Lib.hid hx
     clear hnw hx HQ HB
     go_wp2_with fail
     go_loopg [0] (X.size + 1) (fun g s0 wr => ∃ Y : ByteArray, Y.size < g ∧ Y.size ≤ s.size ∧ s0 = .string Y ∧ (Y.data.toList.reverse.dropWhile ws4).reverse = trimW ws4 l ∧ w = wr)
     case atStart => exact ⟨X, by omega, hXs, rfl, HX.out.symm, rfl⟩
     case round =>
      obtain ⟨Y, hYg, hYs, rfl, hq, rfl⟩ := hrel
      have HQ := Lib.hid hq
      clear hq HX
      obtain ⟨b, hb⟩ : ∃ b, b = (if h : 0 < Y.size then ws4 (Y[Y.size - 1]'(by omega)) else false) := ⟨_, rfl⟩
      have HB := Lib.hid hb
      clear hb
      go_upto_region 3 with fail
      go_cut [23] from 13 to 23 (fun s23 wc => s23 = .bool b ∧ w = wc)
      case first =>
       by_cases h0 : 0 < Y.size
       ·have g0 : decide (0 < Y.size) = true := decide_eq_true h0
        have hb := HB.out
        rw [dif_pos h0] at hb
        have hS := fun W => rspace_any (Y[Y.size - 1]'(by omega)) W
        rw [← hb] at hS
        have HS := Lib.hid hS
        clear hS hb
        go_wp2_with fail
        refine (HS.out _).mono ?_
        rintro e w1 ⟨rfl, rfl⟩
        go_wp2_with fail
        go_meet
        case rel => exact ⟨rfl, rfl⟩
       ·have g0 : decide (0 < Y.size) = false := decide_eq_false h0
        have hb := HB.out
        rw [dif_neg h0] at hb
        subst hb
        go_wp2_with fail
        go_meet
        case rel => exact ⟨rfl, rfl⟩
      case rest =>
       obtain ⟨rfl, rfl⟩ := hcut
       cases b with
       | true =>
         have h0 : 0 < Y.size := by
          have := HB.out
          by_cases h : 0 < Y.size
          ·exact h
          ·rw [dif_neg h] at this; cases this
         have hw : ws4 (Y[Y.size - 1]'(by omega)) = true := by have := HB.out; rw [dif_pos h0] at this; exact this.symm
         have hnx : ((Y.extract 0 (Y.size - 1)).data.toList.reverse.dropWhile ws4).reverse = trimW ws4 l := by
          rw [← HQ.out, last_snoc Y (Y.size - 1) (by omega), List.reverse_append, List.reverse_singleton, List.singleton_append, List.dropWhile_cons, hw]; rfl
         have hnz : (Y.extract 0 (Y.size - 1)).size = Y.size - 1 := by rw [ByteArray.size_extract]; omega
         have HN := Lib.hid hnx
         have HNZ := Lib.hid hnz
         clear hw hnx hnz
         go_wp2_with fail
         go_roundg (Y.size)
         case measure => omega
         case rel => exact ⟨Y.extract 0 (Y.size - 1), by rw [HNZ.out]; omega, by rw [HNZ.out]; omega, rfl, HN.out, rfl⟩
       | false =>
         have hr : Y = ⟨(trimW ws4 l).toArray⟩ := bytes_ext (by
          rw [data_mk, ← HQ.out]
          by_cases h : 0 < Y.size
          ·have := HB.out
           rw [dif_pos h] at this
           have e := last_snoc Y (Y.size - 1) (by omega)
           have e2 : Y.data.toList.reverse.dropWhile ws4 = Y.data.toList.reverse := by
            rw [e, List.reverse_append, List.reverse_singleton, List.singleton_append, List.dropWhile_cons, ← this]; rfl
           rw [e2, List.reverse_reverse]
          ·have : Y.data.toList = [] := List.length_eq_zero_iff.1 (by have : Y.data.toList.length = Y.size := (by simp); omega)
           rw [this]; rfl)
         have HR := Lib.hid hr
         clear hr HQ HB
         go_wp2_with fail
         go_ret
         exact ⟨congrArg (fun x => Ending.returned (Value.string x)) HR.out, rfl⟩
end Go.Proofs.YthieinfonomeeaaGreatDoor
namespace Go.Proofs.YthieinfonomeeaaGreatDoor
open Go.RowKit Tit Inl
set_option linter.unusedVariables false
attribute [local go_sem ↓] Go.wp_at_zero Go.wp_at_succ
theorem skp_true : skp true = bl3 := by
 funext c
 unfold skp bl3
 rw [Bool.true_and]
 cases (c == 9) <;> cases (c == 32) <;> cases (c == 95) <;> rfl
theorem drop_tw (p : UInt8 → Bool) : ∀ l : List UInt8, l.drop (l.takeWhile p).length = l.dropWhile p
 | [] => rfl
 | a :: r => by
   rw [List.takeWhile_cons, List.dropWhile_cons]
   cases p a with
   | true => simpa using drop_tw p r
   | false => rfl
theorem bl3_eq (c : UInt8) : bl3 c = (decide (c.toNat = 9) || decide (c.toNat = 32) || decide (c.toNat = 95)) := by
 have a1 : c = 9 ↔ c.toNat = 9 := u8_eq (by decide)
 have a2 : c = 32 ↔ c.toNat = 32 := u8_eq (by decide)
 have a3 : c = 95 ↔ c.toNat = 95 := u8_eq (by decide)
 unfold bl3
 rw [Bool.eq_iff_iff]
 simp [a1, a2, a3]
theorem word_eq (c : UInt8) : word c = (decide (48 ≤ c.toNat) && decide (c.toNat ≤ 57) || (decide (97 ≤ c.toNat) && decide (c.toNat ≤ 122)) || (decide (65 ≤ c.toNat) && decide (c.toNat ≤ 90)) || decide (c.toNat = 45) || decide (c.toNat = 95)) := by
 have a1 : (c == 45) = decide (c.toNat = 45) := by
  rw [Bool.eq_iff_iff]
  simp only [beq_iff_eq, decide_eq_true_eq]
  exact u8_eq (n := 45) (by decide)
 have a2 : (c == 95) = decide (c.toNat = 95) := by
  rw [Bool.eq_iff_iff]
  simp only [beq_iff_eq, decide_eq_true_eq]
  exact u8_eq (n := 95) (by decide)
 unfold word dg
 rw [a1, a2]
set_option maxRecDepth 10000 in
set_option maxHeartbeats 1000000 in
theorem redges_any (s : ByteArray) (w : World) (hs : s.size ≤ 100000000) : Calls Tryz.prog 135 #[.string s] w fun e w' => e = .returned (.string ⟨(trimW bl3 s.data.toList).toArray⟩) ∧ w = w' := by
 obtain ⟨l, hl⟩ : ∃ l, l = s.data.toList := ⟨_, rfl⟩
 have hsz : s.data.toList.length = s.size := by simp
 have hSK := fun W => skip_any s true W (by omega)
 rw [← hl] at hSK hsz ⊢
 have htr : trimW bl3 l = ((l.dropWhile bl3).reverse.dropWhile bl3).reverse := rfl
 have hkl : (l.takeWhile (skp true)).length ≤ s.size := by rw [← hsz]; exact tw_le _ _
 obtain ⟨k, hk⟩ : ∃ k, k = (l.takeWhile (skp true)).length := ⟨_, rfl⟩
 rw [← hk] at hSK hkl
 have hdr : (s.extract k s.size).data.toList = l.dropWhile bl3 := by rw [Lib.extract_to_end, ← hl, hk, drop_tw, skp_true]
 obtain ⟨X, hX⟩ : ∃ X, X = s.extract k s.size := ⟨_, rfl⟩
 have hXz : X.size ≤ s.size := by rw [hX, ByteArray.size_extract]; omega
 rw [← hX] at hdr
 have HX := Lib.hid hX
 have HDR := Lib.hid hdr
 have HSK := Lib.hid hSK
 have HTR := Lib.hid htr
 clear hl htr hSK hk hdr hX hsz
 go_enter Tryz.func135, Tryz.ntmps135
 go_wp2_with fail
 refine (HSK.out _).mono ?_
 rintro e w1 ⟨rfl, rfl⟩
 go_wp2_with fail
 go_loopg [0] (X.size + 1) (fun g s0 wr => ∃ Y : ByteArray, Y.size < g ∧ Y.size ≤ X.size ∧ s0 = .string Y ∧ (Y.data.toList.reverse.dropWhile bl3).reverse = trimW bl3 l ∧ w = wr)
 case atStart => exact ⟨X, by omega, Nat.le_refl _, by rw [HX.out], by rw [HTR.out, HDR.out], rfl⟩
 case round =>
  obtain ⟨Y, hYg, hYs, rfl, hq, rfl⟩ := hrel
  have HQ := Lib.hid hq
  clear hq
  obtain ⟨b, hb⟩ : ∃ b, b = (if h : 0 < Y.size then bl3 (Y[Y.size - 1]'(by omega)) else false) := ⟨_, rfl⟩
  have HB := Lib.hid hb
  clear hb
  go_upto_region 2 with fail
  go_cut [33] from 7 to 33 (fun s33 wc => s33 = .bool b ∧ w = wc)
  case first =>
   by_cases h0 : 0 < Y.size
   ·have g0 : decide (0 < Y.size) = true := decide_eq_true h0
    have hb := HB.out
    rw [dif_pos h0, bl3_eq] at hb
    obtain ⟨x, hx⟩ : ∃ x, (Y[Y.size - 1]'(by omega)).toNat = x := ⟨_, rfl⟩
    rw [hx] at hb
    have HBB := Lib.hid hb
    clear hb
    by_cases h1 : x = 9
    ·have g1 : ((x : Int) == 9) = true := by simp; omega
     have hbt : b = true := by rw [HBB.out]; simp [h1]
     subst hbt
     clear h1
     go_wp2_with fail
     go_meet
     case rel => exact ⟨rfl, rfl⟩
    have g1 : ((x : Int) == 9) = false := by simp; omega
    by_cases h2 : x = 32
    ·have g2 : ((x : Int) == 32) = true := by simp; omega
     have hbt : b = true := by rw [HBB.out]; simp [h2]
     subst hbt
     clear h1 h2
     go_wp2_with fail
     go_meet
     case rel => exact ⟨rfl, rfl⟩
    have g2 : ((x : Int) == 32) = false := by simp; omega
    have hbt : ((x : Int) == 95) = b := by rw [HBB.out, Bool.eq_iff_iff]; simp [h1, h2]; omega
    have HBT := Lib.hid hbt
    clear h1 h2 hbt
    go_wp2_with fail
    go_meet
    case rel => exact ⟨by rw [HBT.out], rfl⟩
   ·have g0 : decide (0 < Y.size) = false := decide_eq_false h0
    have hb := HB.out
    rw [dif_neg h0] at hb
    subst hb
    go_wp2_with fail
    go_meet
    case rel => exact ⟨rfl, rfl⟩
  case rest =>
   obtain ⟨rfl, rfl⟩ := hcut
   cases b with
   | true =>
     have h0 : 0 < Y.size := by
      have := HB.out
      by_cases h : 0 < Y.size
      ·exact h
      ·rw [dif_neg h] at this; cases this
     have hw : bl3 (Y[Y.size - 1]'(by omega)) = true := by have := HB.out; rw [dif_pos h0] at this; exact this.symm
     have hnx : ((Y.extract 0 (Y.size - 1)).data.toList.reverse.dropWhile bl3).reverse = trimW bl3 l := by
      rw [← HQ.out, last_snoc Y (Y.size - 1) (by omega), List.reverse_append, List.reverse_singleton, List.singleton_append, List.dropWhile_cons, hw]; rfl
     have hnz : (Y.extract 0 (Y.size - 1)).size = Y.size - 1 := by rw [ByteArray.size_extract]; omega
     have HN := Lib.hid hnx
     have HNZ := Lib.hid hnz
     clear hw hnx hnz
     go_wp2_with fail
     go_roundg (Y.size)
     case measure => omega
     case rel => exact ⟨Y.extract 0 (Y.size - 1), by rw [HNZ.out]; omega, by rw [HNZ.out]; omega, rfl, HN.out, rfl⟩
   | false =>
     have hr : Y = ⟨(trimW bl3 l).toArray⟩ := bytes_ext (by
      rw [data_mk, ← HQ.out]
      by_cases h : 0 < Y.size
      ·have := HB.out
       rw [dif_pos h] at this
       have e := last_snoc Y (Y.size - 1) (by omega)
       have e2 : Y.data.toList.reverse.dropWhile bl3 = Y.data.toList.reverse := by
        rw [e, List.reverse_append, List.reverse_singleton, List.singleton_append, List.dropWhile_cons, ← this]; rfl
       rw [e2, List.reverse_reverse]
      ·have : Y.data.toList = [] := List.length_eq_zero_iff.1 (by have : Y.data.toList.length = Y.size := (by simp); omega)
       rw [this]; rfl)
     have HR := Lib.hid hr
     clear hr HQ HB
     go_wp2_with fail
     go_ret
     exact ⟨congrArg (fun x => Ending.returned (Value.string x)) HR.out, rfl⟩
theorem tw_drop_at {p : UInt8 → Bool} (s : ByteArray) (i k : Nat) (hk : k ≤ s.size) (hi : i ≤ k) (h1 : ∀ j (h : j < s.size), i ≤ j → j < k → p s[j] = true) (h2 : ∀ h : k < s.size, p s[k] = false) : ((s.data.toList.drop i).takeWhile p).length = k - i := by
 have hz : s.data.toList.length = s.size := by simp
 refine tw_at _ _ (by rw [List.length_drop]; omega) (fun j h hj => ?_) (fun h => ?_)
 ·rw [List.length_drop] at h
  obtain ⟨_, e⟩ := byte_at s (i + j) (by omega)
  rw [List.getElem_drop, ← e]; exact h1 _ (by omega) (by omega) (by omega)
 ·rw [List.length_drop] at h
  obtain ⟨_, e⟩ := byte_at s k (by omega)
  rw [List.getElem_drop]
  simp only [show i + (k - i) = k by omega]
  rw [← e]; exact h2 (by omega)
def nmEnd (s : List UInt8) (i : Nat) : Nat := if 30 < ((s.drop i).takeWhile word).length then i else i + ((s.drop i).takeWhile word).length
set_option maxRecDepth 10000 in
set_option maxHeartbeats 2000000 in
theorem rname_any (s : ByteArray) (i : Nat) (w : World) (hs : s.size ≤ 100000000) (hi : i ≤ s.size) : Calls Tryz.prog 138 #[.string s, .int .i64 i] w fun e w' => e = .returned (.int .i64 (nmEnd s.data.toList i : Nat)) ∧ w = w' := by
 go_enter Tryz.func138, Tryz.ntmps138
 go_wp2_with fail
 go_loopg [5] (s.size + 1) (fun g s5 wr => ∃ k : Nat, i ≤ k ∧ k ≤ s.size ∧ s.size < k + g ∧ s5 = .int .i64 k ∧ (∀ j (h : j < s.size), i ≤ j → j < k → word s[j] = true) ∧ w = wr)
 case atStart => exact ⟨i, Nat.le_refl _, hi, by omega, rfl, fun j h h1 h2 => by omega, rfl⟩
 case round =>
  obtain ⟨k, hik, hks, hg, rfl, hj, rfl⟩ := hrel
  have HJ := Lib.hid hj
  clear hj
  obtain ⟨b, hb⟩ : ∃ b, b = (if h : k < s.size then word s[k] else false) := ⟨_, rfl⟩
  have HB := Lib.hid hb
  clear hb
  go_upto_region 2 with fail
  go_cut [58] from 7 to 58 (fun s58 wc => s58 = .bool b ∧ w = wc)
  case first =>
   by_cases hin : k < s.size
   ·have g0 : decide (k < s.size) = true := decide_eq_true hin
    have hb := HB.out
    rw [dif_pos hin, word_eq] at hb
    obtain ⟨x, hx⟩ : ∃ x, s[k].toNat = x := ⟨_, rfl⟩
    rw [hx] at hb
    have HBB := Lib.hid hb
    clear hb
    have hcs : (x = 45) ∨ (x = 95) ∨ (48 ≤ x ∧ x ≤ 57) ∨ (97 ≤ x ∧ x ≤ 122) ∨ (65 ≤ x ∧ x ≤ 90) ∨ (x < 48 ∧ x ≠ 45) ∨ (58 ≤ x ∧ x ≤ 64) ∨ (91 ≤ x ∧ x ≤ 96 ∧ x ≠ 95) ∨ (123 ≤ x) := by omega
    rcases hcs with hc | hc | hc | hc | hc | hc | hc | hc | hc
    ·have hbt : b = true := by rw [HBB.out]; simp; omega
     subst hbt
     have g45c : ((x : Int) == 45) = true := by simp; omega
     clear hc
     go_wp2_with fail
     go_meet
     case rel => exact ⟨rfl, rfl⟩
    ·have hbt : b = true := by rw [HBB.out]; simp; omega
     subst hbt
     have g45c : ((x : Int) == 45) = false := by simp; omega
     have g95c : ((x : Int) == 95) = true := by simp; omega
     clear hc
     go_wp2_with fail
     go_meet
     case rel => exact ⟨rfl, rfl⟩
    ·have hbt : b = true := by rw [HBB.out]; simp; omega
     subst hbt
     have g45c : ((x : Int) == 45) = false := by simp; omega
     have g95c : ((x : Int) == 95) = false := by simp; omega
     have g48a : decide ((48 : Int) ≤ (x : Int)) = true := by simp; omega
     have g57b : decide ((x : Int) ≤ 57) = true := by simp; omega
     clear hc
     go_wp2_with fail
     go_meet
     case rel => exact ⟨rfl, rfl⟩
    ·have hbt : b = true := by rw [HBB.out]; simp; omega
     subst hbt
     have g45c : ((x : Int) == 45) = false := by simp; omega
     have g95c : ((x : Int) == 95) = false := by simp; omega
     have g48a : decide ((48 : Int) ≤ (x : Int)) = true := by simp; omega
     have g57b : decide ((x : Int) ≤ 57) = false := by simp; omega
     have g97a : decide ((97 : Int) ≤ (x : Int)) = true := by simp; omega
     have g122b : decide ((x : Int) ≤ 122) = true := by simp; omega
     clear hc
     go_wp2_with fail
     go_meet
     case rel => exact ⟨rfl, rfl⟩
    ·have hbt : b = true := by rw [HBB.out]; simp; omega
     subst hbt
     have g45c : ((x : Int) == 45) = false := by simp; omega
     have g95c : ((x : Int) == 95) = false := by simp; omega
     have g48a : decide ((48 : Int) ≤ (x : Int)) = true := by simp; omega
     have g57b : decide ((x : Int) ≤ 57) = false := by simp; omega
     have g97a : decide ((97 : Int) ≤ (x : Int)) = false := by simp; omega
     have g65a : decide ((65 : Int) ≤ (x : Int)) = true := by simp; omega
     have g90b : decide ((x : Int) ≤ 90) = true := by simp; omega
     clear hc
     go_wp2_with fail
     go_meet
     case rel => exact ⟨rfl, rfl⟩
    ·have hbt : b = false := by rw [HBB.out]; simp; omega
     subst hbt
     have g45c : ((x : Int) == 45) = false := by simp; omega
     have g95c : ((x : Int) == 95) = false := by simp; omega
     have g48a : decide ((48 : Int) ≤ (x : Int)) = false := by simp; omega
     have g97a : decide ((97 : Int) ≤ (x : Int)) = false := by simp; omega
     have g65a : decide ((65 : Int) ≤ (x : Int)) = false := by simp; omega
     clear hc
     go_wp2_with fail
     go_meet
     case rel => exact ⟨rfl, rfl⟩
    ·have hbt : b = false := by rw [HBB.out]; simp; omega
     subst hbt
     have g45c : ((x : Int) == 45) = false := by simp; omega
     have g95c : ((x : Int) == 95) = false := by simp; omega
     have g48a : decide ((48 : Int) ≤ (x : Int)) = true := by simp; omega
     have g57b : decide ((x : Int) ≤ 57) = false := by simp; omega
     have g97a : decide ((97 : Int) ≤ (x : Int)) = false := by simp; omega
     have g65a : decide ((65 : Int) ≤ (x : Int)) = false := by simp; omega
     clear hc
     go_wp2_with fail
     go_meet
     case rel => exact ⟨rfl, rfl⟩
    ·have hbt : b = false := by rw [HBB.out]; simp; omega
     subst hbt
     have g45c : ((x : Int) == 45) = false := by simp; omega
     have g95c : ((x : Int) == 95) = false := by simp; omega
     have g48a : decide ((48 : Int) ≤ (x : Int)) = true := by simp; omega
     have g57b : decide ((x : Int) ≤ 57) = false := by simp; omega
     have g97a : decide ((97 : Int) ≤ (x : Int)) = false := by simp; omega
     have g65a : decide ((65 : Int) ≤ (x : Int)) = true := by simp; omega
     have g90b : decide ((x : Int) ≤ 90) = false := by simp; omega
     clear hc
     go_wp2_with fail
     go_meet
     case rel => exact ⟨rfl, rfl⟩
    ·have hbt : b = false := by rw [HBB.out]; simp; omega
     subst hbt
     have g45c : ((x : Int) == 45) = false := by simp; omega
     have g95c : ((x : Int) == 95) = false := by simp; omega
     have g48a : decide ((48 : Int) ≤ (x : Int)) = true := by simp; omega
     have g57b : decide ((x : Int) ≤ 57) = false := by simp; omega
     have g97a : decide ((97 : Int) ≤ (x : Int)) = true := by simp; omega
     have g122b : decide ((x : Int) ≤ 122) = false := by simp; omega
     have g65a : decide ((65 : Int) ≤ (x : Int)) = true := by simp; omega
     have g90b : decide ((x : Int) ≤ 90) = false := by simp; omega
     clear hc
     go_wp2_with fail
     go_meet
     case rel => exact ⟨rfl, rfl⟩
   ·have g0 : decide (k < s.size) = false := decide_eq_false hin
    have hbt : b = false := by rw [HB.out, dif_neg hin]
    subst hbt
    go_wp2_with fail
    go_meet
    case rel => exact ⟨rfl, rfl⟩
  case rest =>
   obtain ⟨rfl, rfl⟩ := hcut
   cases b with
   | true =>
     have hin : k < s.size := by
      have := HB.out
      by_cases h : k < s.size
      ·exact h
      ·rw [dif_neg h] at this; cases this
     have hk : word s[k] = true := by have := HB.out; rw [dif_pos hin] at this; exact this.symm
     have HK := Lib.hid hk
     clear hk
     go_wp2_with fail
     go_roundg (s.size - k)
     case measure => omega
     case rel => exact ⟨k + 1, by omega, by omega, by omega, by go_num, fun j h1 h0 h2 => by
      by_cases e : j = k
      ·subst e; exact HK.out
      ·exact HJ.out j h1 h0 (by omega), rfl⟩
   | false =>
     have hr : ((s.data.toList.drop i).takeWhile word).length = k - i := tw_drop_at s i k hks hik HJ.out (fun h => by have := HB.out; rw [dif_pos h] at this; exact this.symm)
     by_cases h30 : 30 < k - i
     ·have hn : nmEnd s.data.toList i = i := by unfold nmEnd; rw [hr, if_pos h30]
      have HN := Lib.hid hn
      have g1 : decide ((30 : Int) < (k : Int) - (i : Int)) = true := decide_eq_true (by omega)
      clear hr hn
      go_wp2_with fail
      go_ret
      exact ⟨by rw [HN.out]; rfl, rfl⟩
     ·have hn : nmEnd s.data.toList i = k := by unfold nmEnd; rw [hr, if_neg h30]; omega
      have HN := Lib.hid hn
      have g1 : decide ((30 : Int) < (k : Int) - (i : Int)) = false := decide_eq_false (by omega)
      clear hr hn
      go_wp2_with fail
      go_ret
      exact ⟨by rw [HN.out]; rfl, rfl⟩
end Go.Proofs.YthieinfonomeeaaGreatDoor
