/-
  The claim's own texts, packed. Conditions: those typed in each theorem.
-/
import Derived.Test.YthieinfonomeeaaGreatDoorZAam
import Derived.Test.YthieinfonomeeaaGreatDoorZAai
namespace Go.Proofs.YthieinfonomeeaaGreatDoor
open Go.RowKit Tit
set_option linter.unusedVariables false
attribute [local go_sem ↓] Go.wp_at_zero Go.wp_at_succ
theorem sqF_keep {out : List UInt8} {c : UInt8} {r : List UInt8} (hu : unb c = c) (h : ¬ (c = 32 ∧ (out = [] ∨ out.getLast? = some 32))) : sqF out (c :: r) = sqF (out ++ [c]) r := by
 rw [sqF, hu, if_neg h]
theorem sqF_skip {out : List UInt8} {c : UInt8} {r : List UInt8} (hu : unb c = c) (h : c = 32 ∧ (out = [] ∨ out.getLast? = some 32)) : sqF out (c :: r) = sqF out r := by
 rw [sqF, hu, if_pos h]
theorem u8_eq {c : UInt8} {n : Nat} (hn : n < 256) : c = UInt8.ofNat n ↔ c.toNat = n := by
 constructor
 ·rintro rfl; rw [UInt8.toNat_ofNat']; omega
 ·intro h
  apply UInt8.toNat_inj.1
  rw [UInt8.toNat_ofNat', h]; omega
set_option maxRecDepth 10000 in
set_option maxHeartbeats 2000000 in
theorem single_any (s : ByteArray) (w : World) (hs : s.size ≤ 1000000000) (hu : ∀ c ∈ s.data.toList, unb c = c) : Calls Tryz.prog 163 #[.string s] w fun e w' => e = .returned (.string ⟨(sq s.data.toList).toArray⟩) ∧ Below w.heap.size w w' := by
 have hz : s.data.toList.length = s.size := by simp
 have hby := byte_at s
 obtain ⟨w1, hmk, hO, hbm⟩ := make_bytes w s.size hs
 obtain ⟨l, hl⟩ : ∃ l, l = s.data.toList := ⟨_, rfl⟩
 rw [← hl] at hu
 have HBY := Lib.hid hby
 have HL := Lib.hid hl
 have HU := Lib.hid hu
 have HO := Lib.hid hO
 have HBM := Lib.hid hbm
 have HZ := Lib.hid hz
 clear hu hby hO hbm hz hl
 go_enter Tryz.func163, Tryz.ntmps163
 go_wp2_with fail
 go_loopg [3, 4] (s.size + 1) (fun g s3 s4 wr => ∃ (k : Nat) (out : List UInt8), k ≤ s.size ∧ s.size < k + g ∧ s4 = .int .i64 k ∧ out.length ≤ k ∧ BOwn w.heap.size wr s3 out ∧ sqF out (l.drop k) = sqF [] l ∧ Below w.heap.size w wr)
 case atStart => exact ⟨0, [], by omega, by omega, rfl, Nat.le_refl _, HO.out, by simp, HBM.out⟩
 case round =>
  obtain ⟨k, out, hk1, hk2, rfl, hol, hown, hsq, hbw⟩ := hrel
  obtain ⟨p, c, rfl⟩ := hown.form
  obtain ⟨ol, hol2⟩ : ∃ ol, ol = out.length := ⟨_, rfl⟩
  have HOWN := Lib.hid hown
  have HBW := Lib.hid hbw
  have hbz := hbw.size
  rw [← hol2] at hol HOWN ⊢
  have HOL := Lib.hid hol2
  have HSQ := Lib.hid hsq
  clear hown hbw hsq hol2
  by_cases hkn : k < s.size
  ·have g1 : decide (k < s.size) = true := by simp; omega
   have hkl : k < l.length := by rw [HL.out, HZ.out]; exact hkn
   obtain ⟨_, hbk⟩ := HBY.out k hkn
   have hcl : s[k] = l[k] := by rw [hbk]; simp only [HL.out]
   have hdr := List.drop_eq_getElem_cons hkl
   have huc := HU.out l[k] (List.getElem_mem hkl)
   obtain ⟨ch, hch⟩ : ∃ ch, ch = s[k] := ⟨_, rfl⟩
   rw [← hcl, ← hch] at huc hdr
   have HC := Lib.hid hch
   have hsq := HSQ.out
   rw [hdr] at hsq
   have HSQ := Lib.hid hsq
   have HUC := Lib.hid huc
   have hx8 := ch.toNat_lt
   have h32 := @u8_eq ch 32 (by decide)
   have h32' : ch = 32 ↔ ch.toNat = 32 := h32
   have HSB := Lib.hid (src_byte wr 5 ch)
   have HOA := Lib.hid (HOWN.out.below (below_new0 wr (.cells #[.int .u8 (ch.toNat : Int)] 5)))
   clear hkl hbk hcl hdr huc hsq hch h32
   obtain ⟨x, hx⟩ : ∃ x, s[k].toNat = x := ⟨_, rfl⟩
   have hcn : ch.toNat = x := by rw [HC.out]; exact hx
   rw [hcn] at h32' hx8 HSB HOA
   clear hcn
   by_cases h1 : x = 32
   ·have e1 : ((x : Int) != 32) = false := by simp; omega
    have H32 := Lib.hid (h32'.2 h1)
    by_cases h0 : ol = 0
    ·have e2 : decide (0 < ol) = false := by simp; omega
     clear h1 h32'
     go_wp2_with fail
     go_roundg (s.size - k)
     case measure => omega
     case rel => exact ⟨k + 1, out, by omega, by omega, by go_num, by rw [← HOL.out]; omega, HOWN.out, by rw [← HSQ.out, sqF_skip HUC.out ⟨H32.out, .inl (List.eq_nil_of_length_eq_zero (by rw [← HOL.out]; exact h0))⟩], HBW.out⟩
    ·obtain ⟨m, rfl⟩ : ∃ m, ol = m + 1 := ⟨ol - 1, by omega⟩
     have e2 : decide (0 < m + 1) = true := by simp
     obtain ⟨g, z, hp, hgl, hcz, hlast⟩ := HOWN.out.last HOL.out.symm
     have hz8 := z.toNat_lt
     have h33 : z = 32 ↔ z.toNat = 32 := u8_eq (by decide)
     generalize hzy : z.toNat = y at hcz hz8 h33
     have HLAST := Lib.hid hlast
     have HNE : Hid (out ≠ []) := Lib.hid (fun e => by have := HOL.out; rw [e] at this; simp at this)
     clear hlast hzy h0
     subst hp
     by_cases h2 : y = 32
     ·have e3 : ((y : Int) != 32) = false := by simp; omega
      have H33 := Lib.hid (h33.2 h2)
      clear h1 h32' h2 h33
      go_wp2_with fail
      go_roundg (s.size - k)
      case measure => omega
      case rel => exact ⟨k + 1, out, by omega, by omega, by go_num, by rw [← HOL.out]; omega, HOWN.out, by rw [← HSQ.out, sqF_skip HUC.out ⟨H32.out, .inr (by rw [HLAST.out, H33.out])⟩], HBW.out⟩
     ·have e3 : ((y : Int) != 32) = true := by simp; omega
      have H33 : Hid (¬ z = 32) := Lib.hid (fun e => h2 (h33.1 e))
      clear h1 h32' h2 h33
      go_wp2_with (at_builtin; go_must (refine append_bytes _ rfl _ _ rfl HOA.out rfl HSB.out rfl (by rw [← HOL.out]; simp; omega) (by simp; omega) ?_); intro v' w3 hown3 hgr hat)
      have HOW3 := Lib.hid hown3
      have HB3 := Lib.hid (below_byte (HBW.out.trans ((below_new0 wr _).mono hbz)) HOA.out hgr (by simp; omega))
      clear hown3 hgr hat
      go_wp2_with fail
      go_roundg (s.size - k)
      case measure => omega
      case rel => exact ⟨k + 1, out ++ [ch], by omega, by omega, by go_num, by rw [List.length_append, List.length_singleton, ← HOL.out]; omega, HOW3.out, by rw [← HSQ.out, sqF_keep HUC.out (fun e => by rcases e.2 with e | e; exact HNE.out e; rw [HLAST.out] at e; exact H33.out (Option.some.inj e))], HB3.out⟩
   ·have e1 : ((x : Int) != 32) = true := by simp; omega
    have H32 : Hid (¬ ch = 32) := Lib.hid (fun e => h1 (h32'.1 e))
    clear h1 h32'
    go_wp2_with (at_builtin; go_must (refine append_bytes _ rfl _ _ rfl HOA.out rfl HSB.out rfl (by rw [← HOL.out]; simp; omega) (by simp; omega) ?_); intro v' w3 hown3 hgr hat)
    have HOW3 := Lib.hid hown3
    have HB3 := Lib.hid (below_byte (HBW.out.trans ((below_new0 wr _).mono hbz)) HOA.out hgr (by simp; omega))
    clear hown3 hgr hat
    go_wp2_with fail
    go_roundg (s.size - k)
    case measure => omega
    case rel => exact ⟨k + 1, out ++ [ch], by omega, by omega, by go_num, by rw [List.length_append, List.length_singleton, ← HOL.out]; omega, HOW3.out, by rw [← HSQ.out, sqF_keep HUC.out (fun e => H32.out e.1)], HB3.out⟩
  ·have g1 : decide (k < s.size) = false := by simp; omega
   have hkk : l.drop k = [] := by rw [List.drop_eq_nil_iff, HL.out, HZ.out]; omega
   have hout : out = sqF [] l := by rw [← HSQ.out, hkk]; rfl
   have HOUT := Lib.hid hout
   clear hout
   have htx := HOWN.out.text
   have hch := fun W => chop_any out W (by rw [← HOL.out]; omega)
   clear hkk
   go_wp2_with fail
   refine (hch _).mono ?_
   rintro e w2 ⟨rfl, rfl⟩
   go_wp2_with fail
   go_ret
   refine ⟨?_, HBW.out⟩
   rw [HOUT.out, HL.out]
   rfl
end Go.Proofs.YthieinfonomeeaaGreatDoor
namespace Go.Proofs.YthieinfonomeeaaGreatDoor
open Go.RowKit Tit
set_option linter.unusedVariables false
attribute [local go_sem ↓] Go.wp_at_zero Go.wp_at_succ
theorem indexByte_mem (c : UInt8) : ∀ l : List UInt8, 0 ≤ Lib.indexByte l c ↔ c ∈ l
 | [] => by simp [Lib.indexByte]
 | b :: l => by
   have ih := indexByte_mem c l
   have hg := Lib.indexByte_ge l c
   rw [Lib.indexByte]
   by_cases h : b = c
   ·subst h; simp
   ·have h1 : (b == c) = false := by simpa using h
    rw [h1]
    by_cases e : Lib.indexByte l c = -1
    ·simp [e]
     rw [e] at ih
     exact ⟨fun x => h x.symm, fun x => by have := ih.2 x; omega⟩
    ·have e1 : (Lib.indexByte l c == -1) = false := by simpa using e
     rw [e1]
     simp only [Bool.false_eq_true, if_false, List.mem_cons]
     constructor
     ·intro hh; exact .inr (ih.1 (by omega))
     ·rintro (x | x)
      ·exact absurd x.symm h
      ·have := ih.2 x; omega
def badL : List UInt8 := [60, 62, 91, 93, 123, 125, 124, 35, 95]
theorem badC_eq (c : UInt8) : badC c = (decide (c.toNat < 32) || decide (c.toNat = 127) || decide (c ∈ badL)) := by
 have h1 : decide (c < 32) = decide (c.toNat < 32) := by rw [decide_eq_decide]; exact UInt8.lt_iff_toNat_lt
 have h2 : (c == 127) = decide (c.toNat = 127) := by
  rw [Bool.eq_iff_iff]
  simp only [beq_iff_eq, decide_eq_true_eq]
  exact u8_eq (n := 127) (by decide)
 unfold badC badL
 rw [h1, h2]
 simp only [List.mem_cons, List.not_mem_nil, or_false, Bool.decide_or, Bool.or_assoc]
 congr 2
def prv (l : List UInt8) (k : Nat) : UInt8 := if k = 0 then 0 else l.getD (k - 1) 0
theorem prv_succ (l : List UInt8) (k : Nat) (h : k < l.length) : prv l (k + 1) = l[k] := by
 unfold prv
 rw [if_neg (by omega), Nat.add_sub_cancel]
 simp [List.getD, h]
theorem cleanF_bad {p c : UInt8} {r : List UInt8} (h : (badC c || (c == 32 && p == 32)) = true) : cleanF p (c :: r) = false := by
 rw [cleanF, h]; rfl
theorem cleanF_ok {p c : UInt8} {r : List UInt8} (h : (badC c || (c == 32 && p == 32)) = false) : cleanF p (c :: r) = cleanF c r := by
 rw [cleanF, h]; rfl
set_option maxRecDepth 10000 in
set_option maxHeartbeats 2000000 in
theorem clean_any (s : ByteArray) (w : World) (hs : s.size ≤ 1000000000) : Calls Tryz.prog 180 #[.string s] w fun e w' => e = .returned (.bool (cleanF 0 s.data.toList)) ∧ w = w' := by
 have hz : s.data.toList.length = s.size := by simp
 have hby := byte_at s
 obtain ⟨l, hl⟩ : ∃ l, l = s.data.toList := ⟨_, rfl⟩
 rw [← hl] at hz
 have hby2 : ∀ k (hk : k < s.size), ∃ h : k < l.length, s[k] = l[k] := by rw [hl]; exact hby
 rw [← hl]
 have HBY := Lib.hid hby2
 have HZ := Lib.hid hz
 clear hby hby2 hz hl
 go_enter Tryz.func180, Tryz.ntmps180
 go_wp2_with fail
 go_loopg [3, 4] (s.size + 1) (fun g s3 s4 wr => ∃ k : Nat, k ≤ s.size ∧ s.size < k + g ∧ s3 = .int .i64 k ∧ cleanF (prv l k) (l.drop k) = cleanF 0 l ∧ w = wr)
 case atStart => exact ⟨0, by omega, by omega, rfl, by simp [prv], rfl⟩
 case round =>
  obtain ⟨k, hk1, hk2, rfl, hcl, rfl⟩ := hrel
  have HCL := Lib.hid hcl
  clear hcl
  by_cases hkn : k < s.size
  ·have g1 : decide (k < s.size) = true := by simp; omega
   obtain ⟨hkl, hbk⟩ := HBY.out k hkn
   have hdr := List.drop_eq_getElem_cons hkl
   have hpr := prv_succ l k hkl
   obtain ⟨ch, hch⟩ : ∃ ch, ch = l[k] := ⟨_, rfl⟩
   rw [← hch] at hbk hdr hpr
   have hcl := HCL.out
   rw [hdr] at hcl
   have HC2 := Lib.hid hcl
   have HPR := Lib.hid hpr
   have hbad := badC_eq ch
   have hx8 := ch.toNat_lt
   have hmem := indexByte_mem ch badL
   have h32 : ch = 32 ↔ ch.toNat = 32 := u8_eq (by decide)
   have hIB := fun W => Tryz.strings_IndexByte ⟨badL.toArray⟩ (ch.toNat : Int) W
   have e0 : ((ch.toNat : Int)).toNat.toUInt8 = ch := by simp
   have e1 : (⟨badL.toArray⟩ : ByteArray).data.toList = badL := rfl
   rw [e0, e1] at hIB
   generalize Lib.indexByte badL ch = ix at hIB hmem
   obtain ⟨x, hx⟩ : ∃ x, s[k].toNat = x := ⟨_, rfl⟩
   have hcn : ch.toNat = x := by rw [← hbk]; exact hx
   rw [hcn] at hbad hx8 h32 hIB
   have HIB := Lib.hid hIB
   have HBAD := Lib.hid hbad
   have HMEM := Lib.hid hmem
   have H32 := Lib.hid h32
   clear hkl hbk hdr hpr hch hcl hbad hmem h32 hIB e0 e1 hcn
   by_cases h1 : x < 32
   ·have g2 : decide ((x : Int) < 32) = true := by simp; omega
    have HF : Hid (cleanF 0 l = false) := Lib.hid (by rw [← HC2.out]; exact cleanF_bad (by rw [HBAD.out]; simp [h1]))
    go_wp2_with fail
    go_ret
    exact ⟨ret_bool HF.out.symm, rfl⟩
   have g2 : decide ((x : Int) < 32) = false := by simp; omega
   by_cases h2 : x = 127
   ·have HF : Hid (cleanF 0 l = false) := Lib.hid (by rw [← HC2.out]; exact cleanF_bad (by rw [HBAD.out]; simp [h2]))
    have g3 : ((x : Int) == 127) = true := by simp; omega
    clear h2
    go_wp2_with fail
    go_ret
    exact ⟨ret_bool HF.out.symm, rfl⟩
   have g3 : ((x : Int) == 127) = false := by simp; omega
   by_cases h3 : 0 ≤ ix
   ·have HF : Hid (cleanF 0 l = false) := Lib.hid (by rw [← HC2.out]; exact cleanF_bad (by rw [HBAD.out]; simp [HMEM.out.1 h3]))
    have g4 : decide (0 ≤ ix) = true := by simp; omega
    go_wp2_with fail
    refine (HIB.out _).mono ?_
    rintro e w1 ⟨rfl, rfl⟩
    go_wp2_with fail
    go_ret
    exact ⟨ret_bool HF.out.symm, rfl⟩
   have g4 : decide (0 ≤ ix) = false := by simp; omega
   have hnb : badC ch = false := by
    rw [HBAD.out]
    have : ¬ ch ∈ badL := fun e => h3 (HMEM.out.2 e)
    simp [h1, h2, this]
   have HNB := Lib.hid hnb
   clear h2 h3 hnb
   by_cases h4 : x = 32
   ·have H5 := Lib.hid (H32.out.2 h4)
    have g5 : ((x : Int) == 32) = true := by simp; omega
    clear h4
    by_cases h0 : k = 0
    ·subst h0
     go_wp2_with fail
     refine (HIB.out _).mono ?_
     rintro e w1 ⟨rfl, rfl⟩
     go_wp2_with fail
     go_roundg s.size
     case measure => omega
     case rel => exact ⟨1, by omega, by omega, rfl, by
      have := HC2.out
      rw [cleanF_ok (by rw [HNB.out]; simp [prv])] at this
      rw [HPR.out]; exact this, rfl⟩
    ·obtain ⟨m, rfl⟩ : ∃ m, k = m + 1 := ⟨k - 1, by omega⟩
     have g6 : decide ((0 : Int) < ((m + 1 : Nat) : Int)) = true := by rw [decide_eq_true_eq]; omega
     have hms : m < s.size := by omega
     obtain ⟨hml, hbm⟩ := HBY.out m hms
     have hpm := prv_succ l m hml
     obtain ⟨y, hy⟩ : ∃ y, s[m].toNat = y := ⟨_, rfl⟩
     have hy2 : (prv l (m + 1)).toNat = y := by rw [hpm, ← hbm]; exact hy
     have hy32 : prv l (m + 1) = 32 ↔ (prv l (m + 1)).toNat = 32 := u8_eq (by decide)
     rw [hy2] at hy32
     have HY := Lib.hid hy32
     clear hml hbm hpm hy2 hy32 h0
     by_cases h6 : y = 32
     ·have g7 : ((y : Int) == 32) = true := by simp; omega
      have HF : Hid (cleanF 0 l = false) := Lib.hid (by rw [← HC2.out]; exact cleanF_bad (by rw [H5.out, HY.out.2 h6]; simp))
      clear h6
      go_wp2_with fail
      refine (HIB.out _).mono ?_
      rintro e w1 ⟨rfl, rfl⟩
      go_wp2_with fail
      go_ret
      exact ⟨ret_bool HF.out.symm, rfl⟩
     ·have g7 : ((y : Int) == 32) = false := by simp; omega
      have HP : Hid (¬ prv l (m + 1) = 32) := Lib.hid (fun e => h6 (HY.out.1 e))
      clear h6
      go_wp2_with fail
      refine (HIB.out _).mono ?_
      rintro e w1 ⟨rfl, rfl⟩
      go_wp2_with fail
      go_roundg (s.size - (m + 1))
      case measure => omega
      case rel => exact ⟨m + 1 + 1, by omega, by omega, by go_num, by
       have := HC2.out
       rw [cleanF_ok (by rw [HNB.out]; simp [HP.out])] at this
       rw [HPR.out]; exact this, rfl⟩
   ·have H5 : Hid (¬ ch = 32) := Lib.hid (fun e => h4 (H32.out.1 e))
    have g5 : ((x : Int) == 32) = false := by simp; omega
    clear h4
    go_wp2_with fail
    refine (HIB.out _).mono ?_
    rintro e w1 ⟨rfl, rfl⟩
    go_wp2_with fail
    go_roundg (s.size - k)
    case measure => omega
    case rel => exact ⟨k + 1, by omega, by omega, by go_num, by
     have := HC2.out
     rw [cleanF_ok (by rw [HNB.out]; simp [H5.out])] at this
     rw [HPR.out]; exact this, rfl⟩
  ·have g1 : decide (k < s.size) = false := by simp; omega
   have HF : Hid (cleanF 0 l = true) := Lib.hid (by
    rw [← HCL.out, List.drop_eq_nil_iff.2 (by rw [HZ.out]; omega)]; rfl)
   go_wp2_with fail
   go_ret
   exact ⟨ret_bool HF.out.symm, rfl⟩
end Go.Proofs.YthieinfonomeeaaGreatDoor
namespace Go.Proofs.YthieinfonomeeaaGreatDoor
open Go.RowKit Tit
set_option linter.unusedVariables false
attribute [local go_sem ↓] Go.wp_at_zero Go.wp_at_succ
def trimAll : Bool → List (List UInt8) → List (List UInt8)
 | _, [] => []
 | f, [p] => [if f then p else Lib.trimLeftB p 32]
 | f, p :: q :: r => Lib.trimRightB (if f then p else Lib.trimLeftB p 32) 32 :: trimAll false (q :: r)
theorem trimAll_ne {f : Bool} {q : List UInt8} {r : List (List UInt8)} : trimAll f (q :: r) ≠ [] := by cases r <;> simp [trimAll]
theorem join_trim : ∀ (L : List (List UInt8)) (f : Bool), Lib.join (trimAll f L) [47] = joinT f L
 | [], f => rfl
 | [p], f => by simp [trimAll, joinT, Lib.join, List.intercalate]
 | p :: q :: r, f => by
   have ih := join_trim (q :: r) false
   rw [trimAll, joinT, ← ih]
   cases ht : trimAll false (q :: r) with
   | nil => exact absurd ht trimAll_ne
   | cons x y => simp [Lib.join, List.intercalate, List.intersperse]
def tpc (n j : Nat) (p : List UInt8) : List UInt8 := if j + 1 < n then Lib.trimRightB (if j = 0 then p else Lib.trimLeftB p 32) 32 else (if j = 0 then p else Lib.trimLeftB p 32)
theorem trimAll_len : ∀ (L : List (List UInt8)) (f : Bool), (trimAll f L).length = L.length
 | [], _ => rfl
 | [_], _ => rfl
 | p :: q :: r, f => by rw [trimAll, List.length_cons, trimAll_len (q :: r) false]; rfl
theorem trimAll_at : ∀ (L : List (List UInt8)) (f : Bool) (j : Nat), j < L.length → (trimAll f L).getD j [] = if j + 1 < L.length then Lib.trimRightB (if f = true ∧ j = 0 then L.getD j [] else Lib.trimLeftB (L.getD j []) 32) 32 else (if f = true ∧ j = 0 then L.getD j [] else Lib.trimLeftB (L.getD j []) 32)
 | [], _, j, h => by simp at h
 | [p], f, j, h => by
   have : j = 0 := by simpa using h
   subst this
   cases f <;> simp [trimAll]
 | p :: q :: r, f, 0, h => by cases f <;> simp [trimAll]
 | p :: q :: r, f, j + 1, h => by
   have ih := trimAll_at (q :: r) false j (by simpa using h)
   simp only [trimAll, List.getD_cons_succ, List.length_cons, Nat.add_lt_add_iff_right] at ih ⊢
   rw [ih]
   simp
theorem trimAll_tpc (L : List (List UInt8)) (j : Nat) (h : j < L.length) : (trimAll true L).getD j [] = tpc L.length j (L.getD j []) := by
 rw [trimAll_at L true j h]
 simp [tpc]
theorem ext_getD {A B : List (List UInt8)} (hl : A.length = B.length) (h : ∀ j, j < A.length → A.getD j [] = B.getD j []) : A = B := by
 apply List.ext_getElem hl
 intro j h1 h2
 have := h j h1
 simpa [List.getD, h1, h2] using this
theorem nob_length : ∀ (s : List UInt8) (p : UInt8), (nobF p s).length ≤ s.length
 | [], _ => Nat.le_refl _
 | c :: r, p => by
   have := nob_length r c
   rw [nobF]
   split
   ·simp only [List.length_cons]; omega
   ·simp only [List.length_cons]; omega
theorem set_strs (Q : List ByteArray) (i : Nat) (x : ByteArray) : ((Q.map Value.string).toArray).setIfInBounds i (.string x) = ((Q.set i x).map Value.string).toArray := by
 simp [List.map_set]
theorem getD_setB (Q : List ByteArray) (i j : Nat) (x : ByteArray) (hi : i < Q.length) : (Q.set i x).getD j ⟨#[]⟩ = if j = i then x else Q.getD j ⟨#[]⟩ := by
 by_cases e : j = i
 ·subst e; simp [List.getD, hi]
 ·rw [if_neg e]; simp [List.getD, List.getElem?_set_ne (fun h => e h.symm)]
theorem known_str {w : World} {g : Nat} {t : TypeId} {Q : List ByteArray} (h : Known w g t (Q.map Value.string).toArray) {i : Nat} (hi : i < Q.length) : w.cell? ⟨g, i, none⟩ = some (.string (Q.getD i ⟨#[]⟩)) := by
 rw [h.cell i]
 simp [List.getD, hi]
set_option maxRecDepth 10000 in
set_option maxHeartbeats 4000000 in
theorem slashes_any (s : ByteArray) (w : World) (hs : s.size ≤ 1000000000) (hm : MX w) (hl : Tit.lone s.data.toList) : Calls Tryz.prog 166 #[.string s] w fun e w' => e = .returned (.string ⟨(nob s.data.toList).toArray⟩) ∧ Below w.heap.size w w' := by
 obtain ⟨m, hm⟩ := hm
 have hS := Tryz.strings_Split s ⟨#[47]⟩ m w (by omega) hm (by decide)
 have hz : s.data.toList.length = s.size := by simp
 have hnob : nob s.data.toList = joinT true (segs s.data.toList) := by
  have := nob_join s.data.toList 0 hl (fun e => by simp at e)
  simpa [nob] using this
 have hcount : Lib.countB s ⟨#[47]⟩ = s.data.toList.count 47 := Lib.count_one 47 s.data.toList
 have hdata : (Lib.splitB ⟨#[47]⟩ 0 (Lib.countB s ⟨#[47]⟩) s).map (·.data.toList) = segs s.data.toList := by
  rw [Lib.splitB_data, hcount]
  exact split_segs _ _ (Nat.le_refl _)
 have hplen := Lib.splitB_all ⟨#[47]⟩ (by decide) 0 _ s rfl
 generalize hPq : Lib.splitB ⟨#[47]⟩ 0 (Lib.countB s ⟨#[47]⟩) s = P at hS hdata hplen
 have hcb : Lib.countB s ⟨#[47]⟩ ≤ s.size := by
  rw [hcount, ← hz]; exact List.count_le_length
 rw [← hplen] at hS
 have hNs : P.length ≤ s.size + 1 := by omega
 obtain ⟨N, hN⟩ : ∃ N, N = P.length := ⟨_, rfl⟩
 obtain ⟨L, hL⟩ : ∃ L, L = segs s.data.toList := ⟨_, rfl⟩
 have hLN : L.length = N := by rw [hL, ← hdata, List.length_map, hN]
 have hjl : (joinT true L).length ≤ s.size := by
  rw [hL, ← hnob, ← hz]; exact nob_length _ _
 rw [← hL] at hnob hdata
 have hPd : ∀ j, j < N → (P.getD j ⟨#[]⟩).data.toList = L.getD j [] := by
  intro j hj
  rw [← hdata]
  have : j < P.length := by rw [← hN]; exact hj
  simp [List.getD, this]
 have hsz : ∀ j, j < N → (L.getD j []).length ≤ s.size := by
  have hseg : ∀ (l : List UInt8), ∀ x ∈ segs l, x.length ≤ l.length := by
   intro l
   induction l with
   | nil => intro x hx; simp [segs] at hx; simp [hx]
   | cons c r ih =>
     intro x hx
     unfold segs at hx
     split at hx
     ·rcases List.mem_cons.1 hx with rfl | hx
      ·simp
      ·have := ih x hx; simp only [List.length_cons]; omega
     ·cases hr : segs r with
      | nil => rw [hr] at hx; simp at hx; simp [hx]
      | cons y z =>
        rw [hr] at hx
        rcases List.mem_cons.1 hx with rfl | hx
        ·have := ih y (by rw [hr]; simp); simp only [List.length_cons]; omega
        ·have := ih x (by rw [hr]; simp [hx]); simp only [List.length_cons]; omega
  intro j hj
  have hjL : j < L.length := by rw [hLN]; exact hj
  have h1 : L.getD j [] ∈ segs s.data.toList := by rw [← hL]; simp only [List.getD, List.getElem?_eq_getElem hjL, Option.getD_some]; exact List.getElem_mem hjL
  rw [← hz]; exact hseg _ _ h1
 rw [← hN] at hS hNs
 have HNOB := Lib.hid hnob
 have HN := Lib.hid hN
 have HLN := Lib.hid hLN
 have HPD := Lib.hid hPd
 have HSZ := Lib.hid hsz
 clear hnob hcount hdata hplen hPq hcb hN hL hLN hPd hz hl hm hsz
 go_enter Tryz.func166, Tryz.ntmps166
 go_wp2_with fail
 refine hS.mono ?_
 rintro e w1 ⟨rfl, hw1⟩
 have hK : Known w1 w.heap.size 9 (P.map Value.string).toArray := by rw [hw1]; exact Known.made _ _ _
 have hb1 : Below w.heap.size w w1 := by rw [hw1]; exact below_new0 _ _
 have HK := Lib.hid hK
 have HB1 := Lib.hid hb1
 clear hS hw1 hK hb1
 go_wp2_with fail
 go_loopg [4, 9] (N + 1) (fun g s4 s9 wr => ∃ (k : Nat) (Q : List ByteArray), k ≤ N ∧ N < k + g ∧ s9 = .int .i64 k ∧ Q.length = N ∧ Known wr w.heap.size 9 (Q.map Value.string).toArray ∧ (∀ j, j < N → (Q.getD j ⟨#[]⟩).data.toList = if j < k then tpc N j (L.getD j []) else L.getD j []) ∧ Below w.heap.size w wr)
 case atStart => exact ⟨0, P, by omega, by omega, rfl, HN.out.symm, HK.out, fun j hj => by rw [if_neg (by omega)]; exact HPD.out j hj, HB1.out⟩
 case round =>
  obtain ⟨k, Q, hk1, hk2, rfl, hql, hkn, hqd, hbw⟩ := hrel
  have HQL := Lib.hid hql
  have HQD := Lib.hid hqd
  have HBW := Lib.hid hbw
  have HKN := Lib.hid hkn
  clear hql hqd hbw hkn
  by_cases hlt : k < N
  ·have g1 : decide (k < N) = true := by simp; omega
   have hkq : k < Q.length := by rw [HQL.out]; exact hlt
   have hc0 := known_str HKN.out hkq
   have hfr := HKN.out.free k
   have hgl := HKN.out.lt
   have hxd := HQD.out k hlt
   rw [if_neg (by omega)] at hxd
   have hxs := HSZ.out k hlt
   rw [← hxd] at hxs
   obtain ⟨X, hX⟩ : ∃ X, X = Q.getD k ⟨#[]⟩ := ⟨_, rfl⟩
   rw [← hX] at hc0 hxd hxs
   have HX := Lib.hid hX
   have hxz : X.size ≤ s.size := by have : X.data.toList.length = X.size := by simp
                                    omega
   have HXD := Lib.hid hxd
   have HKQ := Lib.hid hkq
   have hTL := fun W => Tryz.strings_TrimLeft_one X 32 (by decide) W
   rw [hxd] at hTL
   have HTL := Lib.hid hTL
   clear hxd hxs hX hkq hTL
   go_upto_if 13 with fail
   go_cut [4] from 12 to 21 (fun s4 wc => s4 = .int .i64 k ∧ ∃ (Q2 : List ByteArray) (Y : ByteArray), Q2.length = N ∧ Known wc w.heap.size 9 (Q2.map Value.string).toArray ∧ (∀ j, j < N → Q2.getD j ⟨#[]⟩ = if j = k then Y else Q.getD j ⟨#[]⟩) ∧ Y.size ≤ s.size ∧ (Y.data.toList = if k = 0 then L.getD k [] else Lib.trimLeftB (L.getD k []) 32) ∧ Below w.heap.size w wc)
   case first =>
    by_cases h0 : k = 0
    ·subst h0
     have g2 : decide ((0 : Int) < ((0 : Nat) : Int)) = false := by simp
     go_wp2_with fail
     go_meet
     case rel =>
      refine ⟨rfl, Q, X, HQL.out, HKN.out, fun j hj => ?_, hxz, by rw [HXD.out]; rfl, HBW.out⟩
      split
      ·rename_i e; subst e; exact HX.out.symm
      ·rfl
    ·have g2 : decide ((0 : Int) < (k : Int)) = true := by simp; omega
     go_wp2_with fail
     refine (HTL.out _).mono ?_
     rintro e w2 ⟨rfl, rfl⟩
     go_wp2_with fail
     go_meet
     case rel =>
      have hp := HKN.out.put k (.string ⟨(Lib.trimLeftB (L.getD k []) 32).toArray⟩)
      rw [set_strs] at hp
      refine ⟨rfl, Q.set k ⟨(Lib.trimLeftB (L.getD k []) 32).toArray⟩, ⟨(Lib.trimLeftB (L.getD k []) 32).toArray⟩, by rw [List.length_set, HQL.out], hp, fun j hj => ?_, ?_, by rw [if_neg h0], HBW.out.setCell (Nat.le_refl _) _⟩
      ·rw [getD_setB _ _ _ _ HKQ.out]
      ·rw [Lib.size_mk]
       have h1 : (Lib.trimLeftB (L.getD k []) 32).length ≤ (L.getD k []).length := by unfold Lib.trimLeftB; exact (List.dropWhile_suffix _).length_le
       have h2 := HSZ.out k hlt
       omega
   case rest =>
    obtain ⟨rfl, Q2, Y, hq2l, hkn2, hq2, hys, hyd, hbw2⟩ := hcut
    have hkq2 : k < Q2.length := by rw [hq2l]; exact hlt
    have hc2 := known_str hkn2 hkq2
    have hYe := hq2 k hlt
    rw [if_pos rfl] at hYe
    rw [hYe] at hc2
    have hfr2 := hkn2.free k
    have hgl2 := hkn2.lt
    have hTR := fun W => Tryz.strings_TrimRight_one Y 32 (by decide) W (by omega)
    have HTR := Lib.hid hTR
    have HQ2L := Lib.hid hq2l
    have HKN2 := Lib.hid hkn2
    have HQ2 := Lib.hid hq2
    have HYD := Lib.hid hyd
    have HB2 := Lib.hid hbw2
    have HKQ2 := Lib.hid hkq2
    have HQ0 := Lib.hid (fun j (hj : j < N) (hjk : j ≠ k) => by have h1 := HQ2.out j hj; rw [if_neg hjk] at h1; exact (congrArg (fun (b : ByteArray) => b.data.toList) h1).trans (HQD.out j hj))
    clear hc0 hfr hgl hq2l hkn2 hq2 hyd hbw2 hTR hkq2 hYe
    by_cases hlast : k + 1 < N
    ·have g3 : decide ((k : Int) < (N : Int) - 1) = true := by simp; omega
     go_wp2_with fail
     refine (HTR.out _).mono ?_
     rintro e w3 ⟨rfl, rfl⟩
     go_wp2_with fail
     go_roundg (N - k)
     case measure => omega
     case rel =>
      have hp := HKN2.out.put k (.string ⟨(Lib.trimRightB Y.data.toList 32).toArray⟩)
      rw [set_strs] at hp
      refine ⟨k + 1, Q2.set k ⟨(Lib.trimRightB Y.data.toList 32).toArray⟩, by omega, by omega, by go_num, by rw [List.length_set, HQ2L.out], hp, fun j hj => ?_, HB2.out.setCell (Nat.le_refl _) _⟩
      rw [getD_setB _ _ _ _ HKQ2.out]
      by_cases e : j = k
      ·subst e
       rw [if_pos rfl, if_pos (by omega), tpc, if_pos hlast, ← HYD.out]
      ·rw [if_neg e, HQ0.out j hj e]
       by_cases e2 : j < k
       ·rw [if_pos e2, if_pos (by omega)]
       ·rw [if_neg e2, if_neg (by omega)]
    ·have g3 : decide ((k : Int) < (N : Int) - 1) = false := by simp; omega
     go_wp2_with fail
     go_roundg (N - k)
     case measure => omega
     case rel =>
      refine ⟨k + 1, Q2, by omega, by omega, by go_num, HQ2L.out, HKN2.out, fun j hj => ?_, HB2.out⟩
      by_cases e : j = k
      ·subst e
       have h1 := HQ2.out j hj
       rw [if_pos rfl] at h1
       rw [if_pos (by omega), tpc, if_neg hlast, ← HYD.out, h1]
      ·rw [HQ0.out j hj e]
       by_cases e2 : j < k
       ·rw [if_pos e2, if_pos (by omega)]
       ·rw [if_neg e2, if_neg (by omega)]
  ·have g1 : decide (k < N) = false := by simp; omega
   have hkN : k = N := by omega
   have hjoin : Lib.join (Q.map (·.data.toList)) [47] = nob s.data.toList := by
    rw [HNOB.out, ← join_trim]
    congr 1
    refine ext_getD (by rw [List.length_map, trimAll_len, HQL.out, HLN.out]) fun j hj => ?_
    rw [List.length_map, HQL.out] at hj
    rw [trimAll_tpc L j (by rw [HLN.out]; exact hj), HLN.out]
    have h1 := HQD.out j hj
    rw [hkN, if_pos hj] at h1
    rw [← h1]
    have : j < Q.length := by rw [HQL.out]; exact hj
    simp [List.getD, this]
   have hJ := fun W (hW : Known W w.heap.size 9 (Q.map Value.string).toArray) => Tryz.strings_Join w.heap.size 0 N Q ⟨#[47]⟩ W (fun j x hx => by
    rw [Nat.zero_add, hW.cell j]
    simp [hx]) hW.lt (by rw [HQL.out]; omega) (by rw [HQL.out]; exact Nat.le_refl _) (by
     have e1 : (⟨#[47]⟩ : ByteArray).data.toList = [47] := rfl
     rw [e1, hjoin, HNOB.out]; omega)
   have e1 : (⟨#[47]⟩ : ByteArray).data.toList = [47] := rfl
   rw [e1, hjoin, HQL.out] at hJ
   have HJ := Lib.hid hJ
   clear hjoin hJ e1
   go_wp2_with fail
   refine (HJ.out _ HKN.out).mono ?_
   rintro e w2 ⟨rfl, hb2⟩
   go_wp2_with fail
   go_ret
   exact ⟨rfl, below_then HBW.out hb2⟩
end Go.Proofs.YthieinfonomeeaaGreatDoor
namespace Go.Proofs.YthieinfonomeeaaGreatDoor
open Go.RowKit Tit
set_option linter.unusedVariables false
attribute [local go_sem ↓] Go.wp_at_zero Go.wp_at_succ
theorem head_at (s : ByteArray) (h : 0 < s.size) : s.data.toList.head? = some s[0] := by
 obtain ⟨h1, h2⟩ := byte_at s 0 h
 rw [List.head?_eq_getElem?, List.getElem?_eq_getElem h1, h2]
theorem last_at (s : ByteArray) (m : Nat) (h : s.size = m + 1) (hm : m < s.size) : s.data.toList.getLast? = some s[m] := by
 obtain ⟨h1, h2⟩ := byte_at s m hm
 have hz : s.data.toList.length = s.size := by simp
 rw [List.getLast?_eq_getElem?, hz, h, Nat.add_sub_cancel, List.getElem?_eq_getElem h1, h2]
theorem empty_no {s : ByteArray} (h : s.data.toList ≠ []) : s.toList.isEmpty = false := by
 rw [ByteArray.toList_eq]
 cases hl : s.data.toList with
 | nil => exact absurd hl h
 | cons _ _ => rfl
theorem empty_yes {s : ByteArray} (h : s.data.toList = []) : s.toList.isEmpty = true := by rw [ByteArray.toList_eq, h]; rfl
theorem some_eq {a b : UInt8} : (some a == some b) = decide (a = b) := by
 rw [Bool.eq_iff_iff]; simp
theorem segs_len : ∀ (l : List UInt8), ∀ x ∈ segs l, x.length ≤ l.length := by
 intro l
 induction l with
 | nil => intro x hx; simp [segs] at hx; simp [hx]
 | cons c r ih =>
   intro x hx
   unfold segs at hx
   split at hx
   ·rcases List.mem_cons.1 hx with rfl | hx
    ·simp
    ·have := ih x hx; simp only [List.length_cons]; omega
   ·cases hr : segs r with
    | nil => rw [hr] at hx; simp at hx; simp [hx]
    | cons y z =>
      rw [hr] at hx
      rcases List.mem_cons.1 hx with rfl | hx
      ·have := ih y (by rw [hr]; simp); simp only [List.length_cons]; omega
      ·have := ih x (by rw [hr]; simp [hx]); simp only [List.length_cons]; omega
set_option maxRecDepth 10000 in
set_option maxHeartbeats 4000000 in
theorem valid_any (sp : Int) (s : ByteArray) (w : World) (hs : s.size ≤ 1000000000) (hm : MX w) : Calls Tryz.prog 167 #[.agg #[.int .i64 sp, .string s]] w fun e w' => e = .returned (.bool (valid sp s.data.toList)) ∧ Below w.heap.size w w' := by
 have hz : s.data.toList.length = s.size := by simp
 have hvd : valid sp s.data.toList = (decide (0 ≤ sp) && decide (sp < 6) && validN (sp == 0) s.data.toList) := rfl
 have hvn : validN (sp == 0) s.data.toList = (decide (1 ≤ s.data.toList.length) && decide (s.data.toList.length ≤ 100) && cleanF 0 s.data.toList && (segs s.data.toList).all segOk && !(s.data.toList.head? == some 58 || (s.data.toList.head?.any fun c => decide (97 ≤ c) && decide (c ≤ 122))) && !((sp == 0) && (pre s.data.toList).isSome)) := by
  unfold validN
  simp
 have K0 := Known.made w 54 #[.int .i64 sp, .string s]
 have hb0 := below_new0 w (.cells #[.int .i64 sp, .string s] 54)
 obtain ⟨c0, c1⟩ := K0.two
 have hCL := fun W => clean_any s W hs
 generalize hcl : cleanF 0 s.data.toList = cl at hCL hvn
 have HV := Lib.hid hvd
 have HVN := Lib.hid hvn
 have HCL := Lib.hid hCL
 have HM := Lib.hid hm
 clear hvd hvn hCL hm hcl K0
 rw [hz] at HVN
 go_enter Tryz.func167, Tryz.ntmps167
 by_cases h1 : sp < 0
 ·have g1 : decide (sp < 0) = true := by simp; omega
  have HF : Hid (valid sp s.data.toList = false) := Lib.hid (by rw [HV.out, decide_eq_false (show ¬ 0 ≤ sp by omega)]; rfl)
  go_wp2_with fail
  go_ret
  exact ⟨ret_bool HF.out.symm, hb0⟩
 have g1 : decide (sp < 0) = false := by simp; omega
 by_cases h2 : 6 ≤ sp
 ·have g2 : decide (6 ≤ sp) = true := by simp; omega
  have HF : Hid (valid sp s.data.toList = false) := Lib.hid (by rw [HV.out, decide_eq_false (show ¬ sp < 6 by omega)]; simp)
  go_wp2_with fail
  go_ret
  exact ⟨ret_bool HF.out.symm, hb0⟩
 have g2 : decide (6 ≤ sp) = false := by simp; omega
 have hv2 : valid sp s.data.toList = validN (sp == 0) s.data.toList := by rw [HV.out, decide_eq_true (show 0 ≤ sp by omega), decide_eq_true (show sp < 6 by omega)]; rfl
 have HV2 := Lib.hid hv2
 clear hv2 HV
 by_cases h3 : s.size < 1
 ·have g3 : decide ((s.size : Int) < 1) = true := by simp; omega
  have HF : Hid (valid sp s.data.toList = false) := Lib.hid (by rw [HV2.out, HVN.out, decide_eq_false (show ¬ 1 ≤ s.size by omega)]; rfl)
  go_wp2_with fail
  go_ret
  exact ⟨ret_bool HF.out.symm, hb0⟩
 have g3 : decide ((s.size : Int) < 1) = false := by simp; omega
 by_cases h4 : 100 < s.size
 ·have g4 : decide ((100 : Int) < (s.size : Int)) = true := by simp; omega
  have HF : Hid (valid sp s.data.toList = false) := Lib.hid (by rw [HV2.out, HVN.out, decide_eq_false (show ¬ s.size ≤ 100 by omega)]; simp)
  go_wp2_with fail
  go_ret
  exact ⟨ret_bool HF.out.symm, hb0⟩
 have g4 : decide ((100 : Int) < (s.size : Int)) = false := by simp; omega
 cases cl with
 | false =>
   have HF : Hid (valid sp s.data.toList = false) := Lib.hid (by rw [HV2.out, HVN.out]; simp)
   go_wp2_with fail
   refine (HCL.out _).mono ?_
   rintro e w1 ⟨rfl, rfl⟩
   go_wp2_with fail
   go_ret
   exact ⟨ret_bool HF.out.symm, hb0⟩
 | true =>
   have hv3 : valid sp s.data.toList = ((segs s.data.toList).all segOk && !(s.data.toList.head? == some 58 || (s.data.toList.head?.any fun c => decide (97 ≤ c) && decide (c ≤ 122))) && !((sp == 0) && (pre s.data.toList).isSome)) := by
    rw [HV2.out, HVN.out, decide_eq_true (show 1 ≤ s.size by omega), decide_eq_true (show s.size ≤ 100 by omega)]; rfl
   have HV3 := Lib.hid hv3
   clear hv3 HV2 HVN
   go_wp2_with fail
   refine (HCL.out _).mono ?_
   rintro e w1 ⟨rfl, rfl⟩
   obtain ⟨W0, hW0⟩ : ∃ W0, W0 = w.alloc (.cells #[.int .i64 sp, .string s] 54) := ⟨_, rfl⟩
   rw [← hW0] at hb0 c0 c1 ⊢
   have hm1 := HM.out.below hb0
   obtain ⟨m, hm2⟩ := hm1
   have hS := Tryz.strings_Split s ⟨#[47]⟩ m W0 (by omega) hm2 (by decide)
   have hcount : Lib.countB s ⟨#[47]⟩ = s.data.toList.count 47 := Lib.count_one 47 s.data.toList
   have hdata : (Lib.splitB ⟨#[47]⟩ 0 (Lib.countB s ⟨#[47]⟩) s).map (·.data.toList) = segs s.data.toList := by
    rw [Lib.splitB_data, hcount]
    exact split_segs _ _ (Nat.le_refl _)
   have hplen := Lib.splitB_all ⟨#[47]⟩ (by decide) 0 _ s rfl
   have hcb : Lib.countB s ⟨#[47]⟩ ≤ s.size := by
    rw [hcount, ← hz]; exact List.count_le_length
   generalize hPq : Lib.splitB ⟨#[47]⟩ 0 (Lib.countB s ⟨#[47]⟩) s = P at hS hdata hplen
   rw [← hplen] at hS
   have hNs : P.length ≤ s.size + 1 := by omega
   obtain ⟨N, hN⟩ : ∃ N, N = P.length := ⟨_, rfl⟩
   rw [← hN] at hS hNs
   have HN := Lib.hid hN
   have HD := Lib.hid hdata
   have HB0 := Lib.hid hb0
   have hlt0 : w.heap.size < W0.heap.size := by rw [hW0]; simp
   clear hcount hdata hplen hcb hPq hN hW0 hm2 hb0
   go_wp2_with fail
   refine hS.mono ?_
   rintro e w2 ⟨rfl, hw2⟩
   have hK : Known w2 W0.heap.size 9 (P.map Value.string).toArray := by rw [hw2]; exact Known.made _ _ _
   have hb2 : Below W0.heap.size W0 w2 := by rw [hw2]; exact below_new0 _ _
   have d0 := (hb2.cell (p := ⟨w.heap.size, 0, none⟩) hlt0).trans c0
   have hl2 : w.heap.size < w2.heap.size := Nat.lt_of_lt_of_le hlt0 hb2.size
   have HK := Lib.hid hK
   have HB2 := Lib.hid (below_then HB0.out hb2)
   clear hS hw2 hK hb2 c0 c1 hlt0
   go_wp2_with fail
   go_loopg [5, 37] (N + 1) (fun g s5 s37 wr => ∃ k : Nat, k ≤ N ∧ N < k + g ∧ s37 = .int .i64 k ∧ ((segs s.data.toList).take k).all segOk = true ∧ w2 = wr)
   case atStart => exact ⟨0, by omega, by omega, rfl, by simp, rfl⟩
   case round =>
    obtain ⟨k, hk1, hk2, rfl, hall, rfl⟩ := hrel
    have HALL := Lib.hid hall
    clear hall
    by_cases hlt : k < N
    ·have g5 : decide (k < N) = true := by simp; omega
     have hkp : k < P.length := by rw [← HN.out]; exact hlt
     have e1 := known_str HK.out hkp
     have hgl := HK.out.lt
     have hseg : (segs s.data.toList)[k]? = some (P.getD k ⟨#[]⟩).data.toList := by
      rw [← HD.out]; simp [List.getD, hkp]
     obtain ⟨X, hX⟩ : ∃ X, X = P.getD k ⟨#[]⟩ := ⟨_, rfl⟩
     rw [← hX] at e1 hseg
     have hsucc : ((segs s.data.toList).take (k + 1)).all segOk = segOk X.data.toList := by
      rw [List.take_add_one, hseg]
      simp [HALL.out]
     have hbadv : segOk X.data.toList = false → valid sp s.data.toList = false := fun hb => by
      rw [HV3.out]
      have : (segs s.data.toList).all segOk = false := by
       rw [List.all_eq_false]
       exact ⟨X.data.toList, List.mem_of_getElem? hseg, by simp [hb]⟩
      rw [this]; rfl
     have HSU := Lib.hid hsucc
     have HBV := Lib.hid hbadv
     have hXz : X.data.toList.length = X.size := by simp
     have hXs := segs_len _ _ (List.mem_of_getElem? hseg)
     rw [hXz, hz] at hXs
     clear hkp hseg hX hsucc hbadv
     by_cases h6 : X.data.toList = []
     ·have g6 := empty_yes h6
      have HF := Lib.hid (HBV.out (by rw [h6]; rfl))
      clear h6 hXz
      go_wp2_with fail
      go_ret
      exact ⟨ret_bool HF.out.symm, HB2.out⟩
     have g6 := empty_no h6
     have hX0 : 0 < X.size := by
      rw [← hXz]
      exact List.length_pos_iff.2 h6
     have hh := head_at X hX0
     obtain ⟨q, hq⟩ : ∃ q, X.size = q + 1 := ⟨X.size - 1, by omega⟩
     have hq2 : q < X.size := by omega
     have hl := last_at X q hq hq2
     have hsg : segOk X.data.toList = (decide (X[0].toNat ≠ 32) && decide (X[q].toNat ≠ 32)) := by
      unfold segOk
      rw [hh, hl, some_eq, some_eq]
      have : (X.data.toList == []) = false := by simpa using h6
      rw [this]
      have a1 : X[0] = 32 ↔ X[0].toNat = 32 := u8_eq (by decide)
      have a2 : X[q] = 32 ↔ X[q].toNat = 32 := u8_eq (by decide)
      have b1 : decide (X[0] = 32) = decide (X[0].toNat = 32) := decide_eq_decide.2 a1
      have b2 : decide (X[q] = 32) = decide (X[q].toNat = 32) := decide_eq_decide.2 a2
      rw [b1, b2]
      simp
     have HSG := Lib.hid hsg
     clear hh hl hsg h6 hXz
     obtain ⟨x, hx⟩ : ∃ x, X[0].toNat = x := ⟨_, rfl⟩
     obtain ⟨y, hy⟩ : ∃ y, X[q].toNat = y := ⟨_, rfl⟩
     rw [hx, hy] at HSG
     have hq3 : (X.size : Int) = (q : Int) + 1 := by omega
     by_cases h7 : x = 32
     ·have g7 : ((x : Int) == 32) = true := by simp; omega
      have HF := Lib.hid (HBV.out (by rw [HSG.out]; simp [h7]))
      clear h7
      go_wp2_with fail
      go_ret
      exact ⟨ret_bool HF.out.symm, HB2.out⟩
     have g7 : ((x : Int) == 32) = false := by simp; omega
     by_cases h8 : y = 32
     ·have g8 : ((y : Int) == 32) = true := by simp; omega
      have HF := Lib.hid (HBV.out (by rw [HSG.out]; simp [h8]))
      clear h7 h8
      go_wp2_with fail
      go_ret
      exact ⟨ret_bool HF.out.symm, HB2.out⟩
     have g8 : ((y : Int) == 32) = false := by simp; omega
     have HOKS := Lib.hid (HSU.out.trans (by rw [HSG.out]; simp [h7, h8] : _ = true))
     clear h7 h8
     go_wp2_with fail
     go_roundg (N - k)
     case measure => omega
     case rel => exact ⟨k + 1, by omega, by omega, by go_num, HOKS.out, rfl⟩
    ·have g5 : decide (k < N) = false := by simp; omega
     have hkN : k = N := by omega
     have hallT : (segs s.data.toList).all segOk = true := by
      have h1 := HALL.out
      rw [List.take_of_length_le (by rw [← HD.out, List.length_map, ← HN.out, hkN]; exact Nat.le_refl _)] at h1
      exact h1
     have hs0 : 0 < s.size := by omega
     have hh := head_at s hs0
     have hv4 : valid sp s.data.toList = (!(decide (s[0].toNat = 58) || (decide (97 ≤ s[0].toNat) && decide (s[0].toNat ≤ 122))) && !((sp == 0) && (pre s.data.toList).isSome)) := by
      rw [HV3.out, hallT, hh, some_eq]
      have a1 : s[0] = 58 ↔ s[0].toNat = 58 := u8_eq (by decide)
      have a2 : (97 : UInt8) ≤ s[0] ↔ 97 ≤ s[0].toNat := UInt8.le_iff_toNat_le
      have a3 : s[0] ≤ (122 : UInt8) ↔ s[0].toNat ≤ 122 := UInt8.le_iff_toNat_le
      have b1 : decide (s[0] = 58) = decide (s[0].toNat = 58) := decide_eq_decide.2 a1
      have b2 : decide ((97 : UInt8) ≤ s[0]) = decide (97 ≤ s[0].toNat) := decide_eq_decide.2 a2
      have b3 : decide (s[0] ≤ (122 : UInt8)) = decide (s[0].toNat ≤ 122) := decide_eq_decide.2 a3
      simp only [Option.any_some, b1, b2, b3, Bool.true_and]
     obtain ⟨x, hx⟩ : ∃ x, s[0].toNat = x := ⟨_, rfl⟩
     rw [hx] at hv4
     have HV4 := Lib.hid hv4
     have hPR := fun W (hW : MX W) => prefix_any s W hs hW
     obtain ⟨pr, hpr⟩ : ∃ pr, pr = pre s.data.toList := ⟨_, rfl⟩
     rw [← hpr] at hPR HV4
     have HPR := Lib.hid hPR
     clear hkN hallT hh hv4 HALL hPR hpr
     by_cases h6 : x = 58
     ·have g6 : ((x : Int) == 58) = true := by simp; omega
      have HF : Hid (valid sp s.data.toList = false) := Lib.hid (by rw [HV4.out]; simp [h6])
      clear h6
      go_wp2_with fail
      go_ret
      exact ⟨ret_bool HF.out.symm, HB2.out⟩
     have g6 : ((x : Int) == 58) = false := by simp; omega
     have hrest : ∀ (hlow : ¬ (97 ≤ x ∧ x ≤ 122)), valid sp s.data.toList = !((sp == 0) && pr.isSome) := fun hlow => by
      rw [HV4.out]
      have : (decide (97 ≤ x) && decide (x ≤ 122)) = false := by
       rw [Bool.and_eq_false_iff]
       rcases Classical.not_and_iff_not_or_not.1 hlow with h | h
       ·exact .inl (decide_eq_false h)
       ·exact .inr (decide_eq_false h)
      rw [this]
      simp [h6]
     have HR := Lib.hid hrest
     clear hrest
     have hcase : (97 ≤ x ∧ x ≤ 122) ∨ (97 ≤ x ∧ ¬ x ≤ 122) ∨ ¬ 97 ≤ x := by omega
     rcases hcase with ⟨h7, h8⟩ | hno
     ·have g7 : decide ((97 : Int) ≤ (x : Int)) = true := by simp; omega
      have g8 : decide ((x : Int) ≤ 122) = true := by simp; omega
      have HF : Hid (valid sp s.data.toList = false) := Lib.hid (by rw [HV4.out]; simp [h7, h8])
      clear h6 h7 h8
      go_wp2_with fail
      go_ret
      exact ⟨ret_bool HF.out.symm, HB2.out⟩
     ·have HFIN := Lib.hid (HR.out (by omega))
      have hg78 : (decide ((97 : Int) ≤ (x : Int)) = true ∧ decide ((x : Int) ≤ 122) = false) ∨ decide ((97 : Int) ≤ (x : Int)) = false := by
       rcases hno with ⟨h7, h8⟩ | h7
       ·exact .inl ⟨by simp; omega, by simp; omega⟩
       ·exact .inr (by simp; omega)
      clear h6 hno
      rcases hg78 with ⟨g7, g8⟩ | g7
      all_goals
       go_wp2_with fail
       refine (HPR.out _ (HM.out.below HB2.out)).mono ?_
       rintro e w3 ⟨rfl, hb3⟩
       have f0 := (hb3.cell (p := ⟨w.heap.size, 0, none⟩) hl2).trans d0
       have hl3 := Nat.lt_of_lt_of_le hl2 hb3.size
       by_cases h9 : sp = 0
       ·subst h9
        cases pr with
        | none =>
          unfold preV
          go_wp2_with fail
          go_ret
          exact ⟨ret_bool HFIN.out.symm, below_then HB2.out hb3⟩
        | some nr =>
          obtain ⟨n, r⟩ := nr
          unfold preV
          go_wp2_with fail
          go_ret
          exact ⟨ret_bool HFIN.out.symm, below_then HB2.out hb3⟩
       ·have g9 : (sp != 0) = true := by simpa using h9
        have HF2 : Hid (valid sp s.data.toList = true) := Lib.hid (by rw [HFIN.out]; simp [h9])
        cases pr with
        | none =>
          unfold preV
          go_wp2_with fail
          go_ret
          exact ⟨ret_bool HF2.out.symm, below_then HB2.out hb3⟩
        | some nr =>
          obtain ⟨n, r⟩ := nr
          unfold preV
          go_wp2_with fail
          go_ret
          exact ⟨ret_bool HF2.out.symm, below_then HB2.out hb3⟩
end Go.Proofs.YthieinfonomeeaaGreatDoor
