/-
  The claim's own texts, packed. Conditions: those typed in each theorem.
-/
import Derived.Test.YthieinfonomeeaaGreatDoorZAan
import Derived.Deep.CutBlock
import Derived.Test.YthieinfonomeeaaGreatDoorZAai
namespace Go.Proofs.YthieinfonomeeaaGreatDoor
open Go.RowKit Tit
set_option linter.unusedVariables false
attribute [local go_sem ↓] Go.wp_at_zero Go.wp_at_succ
theorem sqF_len : ∀ (s out : List UInt8), (sqF out s).length ≤ out.length + s.length
 | [], out => by simp [sqF]
 | c :: r, out => by
   rw [sqF]
   split
   ·have := sqF_len r out; simp only [List.length_cons]; omega
   ·have := sqF_len r (out ++ [unb c]); simp only [List.length_append, List.length_cons, List.length_nil] at this ⊢; omega
theorem sq_len (s : List UInt8) : (sq s).length ≤ s.length := Nat.le_trans (chop_le _) (by have := sqF_len s []; simpa using this)
theorem dropOne_len (l : List UInt8) : (dropOne l).length ≤ l.length := by unfold dropOne; split <;> simp
theorem rawS_len (s : List UInt8) : (rawS s).length ≤ s.length := by
 have := sq_len s
 unfold rawS
 split
 ·have h1 := dropOne_len (sq s).tail
  have h2 : (sq s).tail.length ≤ (sq s).length := by simp
  omega
 ·exact this
theorem upc_len (l : List UInt8) : (upc l).length = l.length := by
 cases l with
 | nil => rfl
 | cons a r => simp only [upc]; split <;> rfl
theorem pre_len {s r : List UInt8} {n : Nat} (h : pre s = some (n, r)) : r.length ≤ s.length ∧ n ≤ 5 := by
 unfold pre at h
 split at h
 ·cases h
 ·cases hq : spOf (chop (s.takeWhile (· ≠ 58))) 5 1 with
  | none => rw [hq] at h; cases h
  | some k =>
    rw [hq] at h
    injection h with h
    injection h with h1 h2
    subst h1 h2
    refine ⟨by simp, ?_⟩
    unfold spOf at hq; split at hq
    ·injection hq with hq; omega
    unfold spOf at hq; split at hq
    ·injection hq with hq; omega
    unfold spOf at hq; split at hq
    ·injection hq with hq; omega
    unfold spOf at hq; split at hq
    ·injection hq with hq; omega
    unfold spOf at hq; split at hq
    ·injection hq with hq; omega
    ·cases hq
theorem single_unb (l : List UInt8) (w : World) (hs : l.length ≤ 1000000000) : Calls Tryz.prog 163 #[.string ⟨(l.map unb).toArray⟩] w fun e w' => e = .returned (.string ⟨(sq l).toArray⟩) ∧ Below w.heap.size w w' := by
 have h := single_any ⟨(l.map unb).toArray⟩ w (by rw [Lib.size_mk, List.length_map]; exact hs) (fun c hc => by
  obtain ⟨d, _, rfl⟩ := List.mem_map.1 hc
  exact unb_unb d)
 have e1 : sq (l.map unb) = sq l := by unfold sq; rw [sqF_map]
 have e2 : (⟨(l.map unb).toArray⟩ : ByteArray).data.toList = l.map unb := rfl
 rw [e2, e1] at h
 exact h
theorem unb_any (s : ByteArray) (w : World) (hs : s.size ≤ 1000000000) (hm : MX w) : Calls Tryz.prog 164 #[.string s, .string ⟨#[95]⟩, .string ⟨#[32]⟩] w fun e w' => e = .returned (.string ⟨(s.data.toList.map unb).toArray⟩) ∧ Below w.heap.size w w' := by
 obtain ⟨m, hm⟩ := hm
 have hz : s.data.toList.length = s.size := by simp
 have hc : Lib.countB s ⟨#[95]⟩ = s.data.toList.count 95 := Lib.count_one 95 s.data.toList
 have hle : s.data.toList.count 95 ≤ s.data.toList.length := List.count_le_length
 have h := Tryz.strings_ReplaceAll s ⟨#[95]⟩ ⟨#[32]⟩ m w (by omega) hm (by decide) (by
  have : (⟨#[32]⟩ : ByteArray).size = 1 := rfl
  rw [hc, this, Nat.mul_one]
  omega)
 have e1 : Lib.replaceAll s.data.toList (⟨#[95]⟩ : ByteArray).data.toList (⟨#[32]⟩ : ByteArray).data.toList = s.data.toList.map unb := replace_unb s.data.toList
 rw [e1] at h
 exact h
theorem dropOne_any (l : List UInt8) (w : World) : Calls Tryz.prog 148 #[.string ⟨l.toArray⟩, .string ⟨#[32]⟩] w fun e w' => e = .returned (.string ⟨(dropOne l).toArray⟩) ∧ w' = w := by
 have h := Tryz.strings_TrimPrefix ⟨l.toArray⟩ ⟨#[32]⟩ w
 have e1 : Lib.trimPrefix (⟨l.toArray⟩ : ByteArray).data.toList (⟨#[32]⟩ : ByteArray).data.toList = dropOne l := trimPrefix_dropOne l
 rw [e1] at h
 exact h
theorem trimP (X : ByteArray) (l : List UInt8) (h : X.data.toList = l) (w : World) : Calls Tryz.prog 148 #[.string X, .string ⟨#[32]⟩] w fun e w' => e = .returned (.string ⟨(dropOne l).toArray⟩) ∧ w' = w := by
 have h1 := Tryz.strings_TrimPrefix X ⟨#[32]⟩ w
 have e1 : Lib.trimPrefix X.data.toList (⟨#[32]⟩ : ByteArray).data.toList = dropOne l := by rw [h]; exact trimPrefix_dropOne l
 rw [e1] at h1
 exact h1
theorem hasPre_colon (l : List UInt8) : Lib.hasPrefix l [58] = decide (l.head? = some 58) := by
 cases l with
 | nil => rfl
 | cons a r =>
   unfold Lib.hasPrefix
   rw [Bool.eq_iff_iff]
   simp [List.isPrefixOf]
   exact ⟨fun h => h.symm, fun h => h.symm⟩
def aft (s : List UInt8) : Nat × List UInt8 := match pre s with
 | some (n, r) => (n, dropOne r)
 | none => (0, s)
theorem rawT_aft (s : List UInt8) : rawT s = ((aft (rawS s)).1, upc (nob (aft (rawS s)).2)) := by
 unfold rawT aft
 cases pre (rawS s) with
 | none => rfl
 | some nr => rfl
theorem aft_len (s : List UInt8) : (aft s).2.length ≤ s.length ∧ (aft s).1 ≤ 5 := by
 unfold aft
 cases h : pre s with
 | none => exact ⟨Nat.le_refl _, Nat.zero_le _⟩
 | some nr =>
   obtain ⟨n, r⟩ := nr
   obtain ⟨h1, h2⟩ := pre_len h
   exact ⟨Nat.le_trans (dropOne_len r) h1, h2⟩
theorem aft_lone {s : List UInt8} (hs : Tit.lone s) : Tit.lone (aft s).2 := by
 unfold aft
 cases h : pre s with
 | none => exact hs
 | some nr =>
   obtain ⟨n, r⟩ := nr
   exact lone_dropOne (lone_pre hs h)
theorem upc_cons (c : UInt8) (r : List UInt8) : upc (c :: r) = if 97 ≤ c ∧ c ≤ 122 then (c - 32) :: r else c :: r := rfl
theorem preV_form (R : List UInt8) : ∃ (n : Nat) (r : List UInt8) (ok : Bool), preV (pre R) = .tuple #[.int .i64 n, .string ⟨r.toArray⟩, .bool ok] ∧ (ok = true → aft R = (n, dropOne r)) ∧ (ok = false → aft R = (0, R)) := by
 unfold aft
 cases h : pre R with
 | none => exact ⟨0, [], false, rfl, fun h => (by cases h), fun _ => rfl⟩
 | some nr =>
   obtain ⟨n, r⟩ := nr
   exact ⟨n, r, true, rfl, fun _ => rfl, fun h => (by cases h)⟩
set_option maxRecDepth 10000 in
set_option maxHeartbeats 4000000 in
theorem tparse_any (s : ByteArray) (w : World) (hs : s.size ≤ 100000000) (hm : MX w) : Calls Tryz.prog 147 #[.string s] w fun e w' =>
  e = .returned (.tuple #[.agg #[.int .i64 (parse s.data.toList).1, .string ⟨(parse s.data.toList).2.1.toArray⟩], .int .i64 (parse s.data.toList).2.2]) ∧ Below w.heap.size w w' := by
 have hz : s.data.toList.length = s.size := by simp
 obtain ⟨l, hl⟩ : ∃ l, l = s.data.toList := ⟨_, rfl⟩
 have hU := fun W (hW : MX W) => unb_any s W (by omega) hW
 rw [← hl] at hU hz ⊢
 have hSI := fun W => single_unb l W (by omega)
 have hql := sq_len l
 have hrl := rawS_len l
 have hlone := lone_rawS l
 obtain ⟨hal, ha5⟩ := aft_len (rawS l)
 have halone := aft_lone hlone
 have hraw : rawS l = if (sq l).head? = some 58 then dropOne (sq l).tail else sq l := rfl
 have hpar : parse l = if 100 < (rawT l).2.length then (0, [], 3) else if valid (rawT l).1 (rawT l).2 then ((rawT l).1, (rawT l).2, 0) else (0, [], 1) := rfl
 rw [rawT_aft] at hpar
 obtain ⟨Q, hQ⟩ : ∃ Q, Q = sq l := ⟨_, rfl⟩
 rw [← hQ] at hSI hql hraw
 obtain ⟨R, hR⟩ : ∃ R, R = rawS l := ⟨_, rfl⟩
 rw [← hR] at hrl hlone hal ha5 halone hraw hpar
 have HU := Lib.hid hU
 have HSI := Lib.hid hSI
 have HRAW := Lib.hid hraw
 have HPAR := Lib.hid hpar
 have HM := Lib.hid hm
 have hR0 := Known.made w 54 #[.int .i64 0, .string ⟨#[]⟩]
 clear hU hSI hraw hpar hm hl hQ hR
 go_enter Tryz.func147, Tryz.ntmps147
 go_wp2_with fail
 refine (HU.out _ (HM.out.below (below_new0 _ _))).mono ?_
 rintro e w1 ⟨rfl, hb1⟩
 have hk1 := hR0.on hb1
 have hbw1 : Below w.heap.size w w1 := below_then (below_new0 _ _) hb1
 clear hb1 hR0
 go_wp2_with fail
 refine (HSI.out _).mono ?_
 rintro e w2 ⟨rfl, hb2⟩
 have hk2 := hk1.on hb2
 have hbw2 := below_then hbw1 hb2
 clear hb2 hk1 hbw1 HU HSI
 have hHP := fun W => Tryz.strings_HasPrefix ⟨Q.toArray⟩ ⟨#[58]⟩ W
 have e1 : Lib.hasPrefix (⟨Q.toArray⟩ : ByteArray).data.toList (⟨#[58]⟩ : ByteArray).data.toList = decide (Q.head? = some 58) := hasPre_colon Q
 rw [e1] at hHP
 obtain ⟨bq, hbq⟩ : ∃ bq, bq = decide (Q.head? = some 58) := ⟨_, rfl⟩
 rw [← hbq] at hHP
 have HBQ := Lib.hid hbq
 clear hbq
 have HHP := Lib.hid hHP
 have HK2 := Lib.hid hk2
 have HB2 := Lib.hid hbw2
 clear hHP e1 hk2 hbw2
 go_wp2_with fail
 refine (HHP.out _).mono ?_
 rintro e w3 ⟨rfl, rfl⟩
 go_upto_if 12 with fail
 go_cut [0] from 13 to 15 (fun s0 wc => s0 = .string ⟨R.toArray⟩ ∧ w3 = wc)
 case first =>
  cases bq with
  | true =>
    have h58 : Q.head? = some 58 := by have := HBQ.out; simpa using this.symm
    have hQR : R = dropOne Q.tail := by rw [HRAW.out, if_pos h58]
    have hQ1 : 1 ≤ Q.length := by cases Q with | nil => simp at h58 | cons => simp
    have HQR := Lib.hid hQR
    clear hQR h58
    go_wp2_with fail
    refine (trimP _ Q.tail (by rw [Lib.extract_mk]; simp only [List.drop_one]; exact List.take_of_length_le (by simp)) _).mono ?_
    rintro e w4 ⟨rfl, rfl⟩
    go_wp2_with fail
    go_meet
    case rel => exact ⟨by rw [HQR.out], rfl⟩
  | false =>
    have h58 : ¬ Q.head? = some 58 := by have := HBQ.out; simpa using this.symm
    have hQR : R = Q := by rw [HRAW.out, if_neg h58]
    have HQR := Lib.hid hQR
    clear hQR h58
    go_wp2_with fail
    go_meet
    case rel => exact ⟨by rw [HQR.out], rfl⟩
 case rest =>
  obtain ⟨rfl, rfl⟩ := hcut
  have hT0 := Known.made w3 54 #[.int .i64 0, .string ⟨#[]⟩]
  have hb4 := below_new0 w3 (.cells #[.int .i64 0, .string ⟨#[]⟩] 54)
  have hk4 := HK2.out.on hb4
  have hbw4 := below_then HB2.out hb4
  have hz4 : w3.heap.size < (w3.alloc (.cells #[.int .i64 0, .string ⟨#[]⟩] 54)).heap.size := by simp
  have hne : w.heap.size < w3.heap.size := HK2.out.lt
  have hRz : (⟨R.toArray⟩ : ByteArray).size ≤ 1000000000 := by rw [Lib.size_mk]; omega
  have hPR := fun W (hW : MX W) => prefix_any ⟨R.toArray⟩ W hRz hW
  have e0 : (⟨R.toArray⟩ : ByteArray).data.toList = R := rfl
  rw [e0] at hPR
  have HPR := Lib.hid (hPR _ (HM.out.below hbw4))
  have HK4 := Lib.hid hk4
  have HT0 := Lib.hid hT0
  have HB4 := Lib.hid hbw4
  clear hRz hPR e0 hk4 hT0 hb4 hbw4 HHP HRAW HBQ
  obtain ⟨pn, pr, ok, hpv, hok1, hok2⟩ := preV_form R
  rw [hpv] at HPR
  have HOK1 := Lib.hid hok1
  have HOK2 := Lib.hid hok2
  clear hpv hok1 hok2
  go_wp2_with fail
  refine HPR.out.mono ?_
  rintro e w5 ⟨rfl, hb5⟩
  have hT5 := HT0.out.on hb5
  have hK5 := HK4.out.on hb5
  have hB5 := below_then HB4.out hb5
  obtain ⟨t0, t1⟩ := hT5.two
  have tf := hT5.free 0
  have tl := hT5.lt
  have HT5 := Lib.hid hT5
  have HK5 := Lib.hid hK5
  have HB5 := Lib.hid hB5
  clear hT5 hK5 hB5 hb5 HPR HT0 HK4 HB4
  go_upto_if 23 with fail
  go_cut [0] from 23 to 27 (fun s0 wc => s0 = .string ⟨(aft R).2.toArray⟩ ∧ Known wc w3.heap.size 54 #[.int .i64 ((aft R).1 : Nat), .string ⟨#[]⟩] ∧ Known wc w.heap.size 54 #[.int .i64 0, .string ⟨#[]⟩] ∧ Below w.heap.size w wc)
  case first =>
   cases ok with
   | false =>
     have HAF := Lib.hid (HOK2.out rfl)
     go_wp2_with fail
     go_meet
     case rel => exact ⟨by rw [HAF.out], by rw [HAF.out]; exact HT5.out, HK5.out, HB5.out⟩
   | true =>
     have HAF := Lib.hid (HOK1.out rfl)
     go_wp2_with fail
     refine (dropOne_any pr _).mono ?_
     rintro e w6 ⟨rfl, rfl⟩
     go_wp2_with fail
     go_meet
     case rel => exact ⟨by rw [HAF.out], by rw [HAF.out]; exact HT5.out.put 0 _, HK5.out.far (p := ⟨w3.heap.size, 0, none⟩) (Nat.ne_of_lt hne) _, HB5.out.setCell (Nat.le_of_lt hne) _⟩
  case rest =>
   obtain ⟨rfl, hT6, hK6, hB6⟩ := hcut
   obtain ⟨A, hA⟩ : ∃ A, A = aft R := ⟨_, rfl⟩
   rw [← hA] at hT6 hal ha5 halone HPAR ⊢
   obtain ⟨n, S⟩ := A
   dsimp only at hT6 hal ha5 halone HPAR ⊢
   have hSL := fun W (hW : MX W) => slashes_any ⟨S.toArray⟩ W (by rw [Lib.size_mk]; omega) hW halone
   have e0 : (⟨S.toArray⟩ : ByteArray).data.toList = S := rfl
   rw [e0] at hSL
   have hNl := nob_length S 0
   have hnb : nobF 0 S = nob S := rfl
   rw [hnb] at hNl
   have HSL := Lib.hid (hSL _ (HM.out.below hB6))
   have HT6 := Lib.hid hT6
   have HK6 := Lib.hid hK6
   have HB6 := Lib.hid hB6
   clear hSL e0 hT6 hK6 hB6 hA halone hnb HT5 HK5 HB5 t0 t1 tf tl
   go_wp2_with fail
   refine HSL.out.mono ?_
   rintro e w7 ⟨rfl, hb7⟩
   have HT7 := Lib.hid (HT6.out.on hb7)
   have HK7 := Lib.hid (HK6.out.on hb7)
   have HB7 := Lib.hid (below_then HB6.out hb7)
   clear hb7 HSL HT6 HK6 HB6
   obtain ⟨M, hM⟩ : ∃ M, M = nob S := ⟨_, rfl⟩
   rw [← hM] at hNl HPAR ⊢
   clear hM
   obtain ⟨X, hX⟩ : ∃ X : ByteArray, X = ⟨M.toArray⟩ := ⟨_, rfl⟩
   rw [← hX]
   have hXM : X.data.toList = M := by rw [hX]
   have hXz : X.data.toList.length = X.size := by simp
   obtain ⟨bu, hbu⟩ : ∃ bu : Bool, bu = (M.head?.any fun c => decide (97 ≤ c.toNat) && decide (c.toNat ≤ 122)) := ⟨_, rfl⟩
   have HBU := Lib.hid hbu
   have HXM := Lib.hid hXM
   rw [hXM] at hXz
   clear hbu hXM hX
   go_upto_region 9 with fail
   go_cut [41] from 30 to 41 (fun s41 wc => s41 = .bool bu ∧ w7 = wc)
   case first =>
    by_cases hM0 : M = []
    ·have h0 : X.data.toList = [] := by rw [HXM.out]; exact hM0
     have g0 := empty_yes h0
     have hbf : bu = false := by rw [HBU.out, hM0]; rfl
     subst hbf
     clear hM0 h0
     go_wp2_with fail
     go_meet
     case rel => exact ⟨rfl, rfl⟩
    ·have h0 : X.data.toList ≠ [] := by rw [HXM.out]; exact hM0
     have g0 := empty_no h0
     have hX0 : 0 < X.size := by rw [← hXz]; exact List.length_pos_iff.2 hM0
     have hh := head_at X hX0
     rw [HXM.out] at hh
     have hbv := HBU.out
     rw [hh, Option.any_some] at hbv
     obtain ⟨x, hx⟩ : ∃ x, X[0].toNat = x := ⟨_, rfl⟩
     rw [hx] at hbv
     have HBV := Lib.hid hbv
     clear hM0 h0 hh hbv
     by_cases h1 : 97 ≤ x
     ·have g1 : decide ((97 : Int) ≤ (x : Int)) = true := by simp; omega
      by_cases h2 : x ≤ 122
      ·have g2 : decide ((x : Int) ≤ 122) = true := by simp; omega
       have hbf : bu = true := by rw [HBV.out]; simp [h1, h2]
       subst hbf
       clear h1 h2
       go_wp2_with fail
       go_meet
       case rel => exact ⟨rfl, rfl⟩
      ·have g2 : decide ((x : Int) ≤ 122) = false := by simp; omega
       have hbf : bu = false := by rw [HBV.out]; simp [h2]
       subst hbf
       clear h1 h2
       go_wp2_with fail
       go_meet
       case rel => exact ⟨rfl, rfl⟩
     ·have g1 : decide ((97 : Int) ≤ (x : Int)) = false := by simp; omega
      have hbf : bu = false := by rw [HBV.out]; simp [h1]
      subst hbf
      clear h1
      go_wp2_with fail
      go_meet
      case rel => exact ⟨rfl, rfl⟩
   case rest =>
    obtain ⟨rfl, rfl⟩ := hcut
    go_upto_if 41 with fail
    go_cut [0] from 41 to 49 (fun s0 wc => s0 = .string ⟨(upc M).toArray⟩ ∧ Below w7.heap.size w7 wc)
    case first =>
     cases bu with
     | false =>
       have hup : upc M = M := by
        have h := HBU.out
        cases M with
        | nil => rfl
        | cons c r =>
          simp only [List.head?_cons, Option.any_some] at h
          have h' := h.symm
          rw [upc_cons, if_neg]
          rintro ⟨a1, a2⟩
          have b1 : 97 ≤ c.toNat := UInt8.le_iff_toNat_le.1 a1
          have b2 : c.toNat ≤ 122 := UInt8.le_iff_toNat_le.1 a2
          rw [decide_eq_true b1, decide_eq_true b2] at h'
          cases h'
       have HUP := Lib.hid hup
       clear hup
       go_wp2_with fail
       go_meet
       case rel => exact ⟨congrArg Value.string (ByteArray.ext (Array.toList_inj.1 (by rw [HUP.out]; exact HXM.out))), Below.refl _ _⟩
     | true =>
       have h := HBU.out
       cases M with
       | nil => simp at h
       | cons c r =>
         have hX0 : 0 < X.size := by rw [← hXz]; simp
         have hh := head_at X hX0
         rw [HXM.out, List.head?_cons] at hh
         injection hh with hh
         simp only [List.head?_cons, Option.any_some] at h
         have h' := h.symm
         simp only [Bool.and_eq_true, decide_eq_true_eq] at h'
         obtain ⟨b1, b2⟩ := h'
         obtain ⟨x, hx⟩ : ∃ x, X[0].toNat = x := ⟨_, rfl⟩
         have hcx : c.toNat = x := by rw [hh]; exact hx
         rw [hcx] at b1 b2
         have hup : upc (c :: r) = (c - 32) :: r := by
          rw [upc_cons, if_pos ⟨UInt8.le_iff_toNat_le.2 (by rw [hcx]; exact b1), UInt8.le_iff_toNat_le.2 (by rw [hcx]; exact b2)⟩]
         have hsub : ((c - 32).toNat : Int) = (x : Int) - 32 := by
          rw [UInt8.toNat_sub_of_le _ _ (UInt8.le_iff_toNat_le.2 (by rw [hcx]; show 32 ≤ x; omega)), hcx]
          show ((x - 32 : Nat) : Int) = _
          omega
         have hk := Known.made w7 5 #[.int .u8 ((x : Int) - 32)]
         have hBI : BIn (w7.alloc (.cells #[.int .u8 ((x : Int) - 32)] 5)).drew w7.heap.size [c - 32] := by
          refine ⟨hk.lt, fun j hj => ?_⟩
          have : j = 0 := by simpa using hj
          subst this
          refine ⟨?_, hk.free 0⟩
          have h1 := hk.cell 0
          simp only [List.getElem_cons_zero]
          rw [hsub]
          exact h1
         have hconv := conv_from hBI 1 1 rfl
         have hwr : IntKind.u8.wrap ((x : Int) - 32) = (x : Int) - 32 := by
          unfold IntKind.wrap
          simp [IntKind.bits]
          omega
         have hres : (⟨#[c - 32]⟩ : ByteArray) ++ X.extract 1 X.size = ⟨(upc (c :: r)).toArray⟩ := by
          rw [hup, Lib.extract_from, HXM.out]
          apply ByteArray.ext
          simp
         have hXs : X.size ≤ 100000000 := by rw [← hXz]; omega
         have hno : ¬ (9223372036854775807 < (1 : Nat) + (X.size - 1)) := by omega
         have HRES := Lib.hid hres
         have H1 : (1 : Int) ≤ (X.size : Int) := by omega
         clear hres hh h hcx hup hsub hk hBI HXM HBU b1 b2
         go_wp2_with fail
         go_region
         go_wp2_with fail
         go_meet
         case rel => exact ⟨congrArg Value.string HRES.out, ((Below.refl _ _).alloc (Nat.le_refl _) _).drew⟩
    case rest =>
     obtain ⟨rfl, hb8⟩ := hcut
     have hul := upc_len M
     obtain ⟨U, hU⟩ : ∃ U, U = upc M := ⟨_, rfl⟩
     rw [← hU] at hul HPAR ⊢
     have hT8 := HT7.out.on hb8
     have hK8 := HK7.out.on hb8
     have hB8 := below_then HB7.out hb8
     have hUl : U.length ≤ 100000000 := by omega
     obtain ⟨Y, hY⟩ : ∃ Y : ByteArray, Y = ⟨U.toArray⟩ := ⟨_, rfl⟩
     have hYU : Y.data.toList = U := by rw [hY]
     have hYz : Y.size = U.length := by rw [hY, Lib.size_mk]
     rw [← hY]
     have HYU := Lib.hid hYU
     obtain ⟨t0, t1⟩ := hT8.two
     have tf := hT8.free 1
     have tl := hT8.lt
     obtain ⟨k0, k1⟩ := hK8.two
     have kf0 := hK8.free 0
     have kf1 := hK8.free 1
     have kl := hK8.lt
     have HB9 := Lib.hid (hB8.setCell (p := ⟨w3.heap.size, 1, none⟩) (Nat.le_of_lt hne) (.string Y))
     have hT9 := hT8.put 1 (.string Y)
     have hK9 := hK8.far (p := ⟨w3.heap.size, 1, none⟩) (Nat.ne_of_lt hne) (.string Y)
     have hVA := fun W (hW : MX W) => valid_any (n : Int) Y W (by omega) hW
     rw [hYU] at hVA
     have HVA := Lib.hid (hVA _ (HM.out.below HB9.out))
     have HT9 := Lib.hid hT9
     have HK9 := Lib.hid hK9
     clear hU hT8 hK8 hB8 hY hYU hT9 hK9 hVA hb8 HXM HBU hXz hul hal hNl
     by_cases hbig : 100 < U.length
     ·have g1 : decide ((100 : Int) < (Y.size : Int)) = true := by simp; omega
      have g11 : 100 < Y.size := by omega
      have HP : Hid (parse l = (0, [], 3)) := Lib.hid (by rw [HPAR.out, if_pos hbig])
      clear hbig
      go_wp2_with fail
      have c0 := ((HK9.out.put 0 (.int .i64 0)).two).1
      have c1 := (((HK9.out.put 0 (.int .i64 0)).put 1 (.string ⟨#[]⟩)).two).2
      exact bodyPost_ret (v := .tuple #[.agg #[.int .i64 0, .string ⟨#[]⟩], .int .i64 3]) (by simp [results, Tryz.results147, go_sem, c0, c1]) rfl ⟨by rw [HP.out]; rfl, (HB9.out.setCell (p := ⟨w.heap.size, 0, none⟩) (Nat.le_refl _) _).setCell (p := ⟨w.heap.size, 1, none⟩) (Nat.le_refl _) _⟩
     ·have g1 : decide ((100 : Int) < (Y.size : Int)) = false := by simp; omega
      have g11 : ¬ 100 < Y.size := by omega
      have hp := HPAR.out
      rw [if_neg hbig] at hp
      have HP := Lib.hid hp
      obtain ⟨d0, d1⟩ := HT9.out.two
      obtain ⟨j0, j1⟩ := HK9.out.two
      clear hp HPAR hbig
      generalize hva : valid (n : Int) U = va at HVA HP
      have HVB := Lib.hid hva
      clear hva
      go_wp2_with fail
      refine HVA.out.mono ?_
      rintro e w10 ⟨rfl, hb10⟩
      have hT10 := HT9.out.on hb10
      have hK10 := HK9.out.on hb10
      have HB10 := Lib.hid (below_then HB9.out hb10)
      obtain ⟨x0, x1⟩ := hT10.two
      have xl := hT10.lt
      obtain ⟨y0, y1⟩ := hK10.two
      have yf0 := hK10.free 0
      have yf1 := hK10.free 1
      have yl := hK10.lt
      have HT10 := Lib.hid hT10
      have HK10 := Lib.hid hK10
      clear hT10 hK10 hb10 t0 t1 tf tl k0 k1 kf0 kf1 kl d0 d1 j0 j1
      cases va with
      | false =>
        have HP2 : Hid (parse l = (0, [], 1)) := Lib.hid (by rw [HP.out]; rfl)
        go_wp2_with fail
        have c0 := ((HK10.out.put 0 (.int .i64 0)).two).1
        have c1 := (((HK10.out.put 0 (.int .i64 0)).put 1 (.string ⟨#[]⟩)).two).2
        exact bodyPost_ret (v := .tuple #[.agg #[.int .i64 0, .string ⟨#[]⟩], .int .i64 1]) (by simp [results, Tryz.results147, go_sem, c0, c1]) rfl ⟨by rw [HP2.out]; rfl, (HB10.out.setCell (p := ⟨w.heap.size, 0, none⟩) (Nat.le_refl _) _).setCell (p := ⟨w.heap.size, 1, none⟩) (Nat.le_refl _) _⟩
      | true =>
        have HP2 : Hid (parse l = (n, U, 0)) := Lib.hid (by rw [HP.out]; rfl)
        have HYE : Hid (Y = ⟨U.toArray⟩) := Lib.hid (ByteArray.ext (Array.toList_inj.1 (by rw [HYU.out])))
        go_wp2_with fail
        have c0 := ((HK10.out.put 0 (.int .i64 (n : Int))).two).1
        have c1 := (((HK10.out.put 0 (.int .i64 (n : Int))).put 1 (.string Y)).two).2
        exact bodyPost_ret (v := .tuple #[.agg #[.int .i64 (n : Int), .string Y], .int .i64 0]) (by simp [results, Tryz.results147, go_sem, c0, c1]) rfl ⟨by rw [HP2.out, HYE.out]; rfl, (HB10.out.setCell (p := ⟨w.heap.size, 0, none⟩) (Nat.le_refl _) _).setCell (p := ⟨w.heap.size, 1, none⟩) (Nat.le_refl _) _⟩
end Go.Proofs.YthieinfonomeeaaGreatDoor
namespace Go.Proofs.YthieinfonomeeaaGreatDoor
open Go.RowKit Tit
set_option linter.unusedVariables false
attribute [local go_sem ↓] Go.wp_at_zero Go.wp_at_succ
theorem part_eq (s t : ByteArray) (i : Nat) (h : i + t.size ≤ s.size) : ((s.extract i (i + t.size)).toList == t.toList) = Lib.hasPrefix (s.data.toList.drop i) t.data.toList := by
 have hz : t.data.toList.length = t.size := by simp
 have hs : s.data.toList.length = s.size := by simp
 rw [← Lib.hasPrefix_of_take, ByteArray.toList_eq, ByteArray.toList_eq, Lib.extract_data, hz, List.length_drop, hs, decide_eq_true (show t.size ≤ s.size - i by omega), Bool.true_and]
 rw [show i + t.size - i = t.size by omega]
theorem part_no (s t : ByteArray) (i : Nat) (h : s.size < i + t.size) (hi : i ≤ s.size) : Lib.hasPrefix (s.data.toList.drop i) t.data.toList = false := by
 have hz : t.data.toList.length = t.size := by simp
 have hs : s.data.toList.length = s.size := by simp
 rw [← Lib.hasPrefix_of_take, hz, List.length_drop, hs, decide_eq_false (show ¬ t.size ≤ s.size - i by omega), Bool.false_and]
set_option maxRecDepth 10000 in
set_option maxHeartbeats 1000000 in
theorem at_any (s t : ByteArray) (i : Nat) (w : World) (hs : s.size ≤ 1000000000) (ht : t.size ≤ 1000000000) (hi : i ≤ s.size) : Calls Tryz.prog 73 #[.string s, .int .i64 i, .string t] w fun e w' => e = .returned (.bool (Lib.hasPrefix (s.data.toList.drop i) t.data.toList)) ∧ w = w' := by
 by_cases h : i + t.size ≤ s.size
 ·have hp := part_eq s t i h
  generalize Lib.hasPrefix (s.data.toList.drop i) t.data.toList = b at hp ⊢
  have g1 : decide ((i : Int) ≤ (s.size : Int)) = true := by simp; omega
  have g2 : decide ((t.size : Int) ≤ (s.size : Int) - (i : Int)) = true := by simp; omega
  go_enter Tryz.func73, Tryz.ntmps73
  go_wp2_with fail
  go_ret
  exact ⟨rfl, rfl⟩
 ·have hp := part_no s t i (by omega) hi
  rw [hp]
  have g1 : decide ((i : Int) ≤ (s.size : Int)) = true := by simp; omega
  have g2 : decide ((t.size : Int) ≤ (s.size : Int) - (i : Int)) = false := by simp; omega
  clear hp
  go_enter Tryz.func73, Tryz.ntmps73
  go_wp2_with fail
  go_ret
  exact ⟨rfl, rfl⟩
def idx (l sub : List UInt8) (k : Nat) : Int := if Lib.index (l.drop k) sub = -1 then -1 else Lib.index (l.drop k) sub + k
set_option maxRecDepth 10000 in
set_option maxHeartbeats 1000000 in
theorem index_any (s t : ByteArray) (k : Nat) (w : World) (hs : s.size ≤ 1000000000) (ht : t.size ≤ 1000000000) (ht0 : 1 ≤ t.size) (hk : k ≤ s.size) : Calls Tryz.prog 133 #[.string s, .string t, .int .i64 k] w fun e w' => e = .returned (.int .i64 (idx s.data.toList t.data.toList k)) ∧ w = w' := by
 have hz : t.data.toList.length = t.size := by simp
 have hsz : s.data.toList.length = s.size := by simp
 have hne : t.data.toList ≠ [] := fun e => by rw [e] at hz; simp at hz; omega
 obtain ⟨ix, hix⟩ : ∃ ix, ix = idx s.data.toList t.data.toList k := ⟨_, rfl⟩
 rw [← hix]
 have hocc : ∀ j, Lib.occAt (s.data.toList.drop k) t.data.toList j = Lib.hasPrefix (s.data.toList.drop (k + j)) t.data.toList := fun j => by
  unfold Lib.occAt Lib.hasPrefix
  rw [List.drop_drop]
 have hhit : ∀ i, k ≤ i → i ≤ s.size → (∀ j, k ≤ j → j < i → Lib.hasPrefix (s.data.toList.drop j) t.data.toList = false) → Lib.hasPrefix (s.data.toList.drop i) t.data.toList = true → ix = i := fun i h1 h2 h3 h4 => by
  have := Lib.index_first (s := s.data.toList.drop k) (sub := t.data.toList) (i := i - k) (by rw [List.length_drop]; omega) (by rw [hocc, show k + (i - k) = i by omega]; exact h4) (fun j hj => by rw [hocc]; exact h3 _ (by omega) (by omega))
  rw [hix, idx, this, if_neg (by omega)]
  omega
 have hmiss : ∀ i, k ≤ i → s.size < i + t.size → (∀ j, k ≤ j → j < i → Lib.hasPrefix (s.data.toList.drop j) t.data.toList = false) → ix = -1 := fun i h1 h2 h3 => by
  have := Lib.index_past (s := s.data.toList.drop k) (sub := t.data.toList) (i := i - k) hne (fun j hj => by rw [hocc]; exact h3 _ (by omega) (by omega)) (by rw [List.length_drop, hsz, hz]; omega)
  rw [hix, idx, this, if_pos rfl]
 have HHIT := Lib.hid hhit
 have HMISS := Lib.hid hmiss
 have hpe := fun i h => part_eq s t i h
 have HPE := Lib.hid hpe
 clear hix hocc hhit hmiss hpe hne hz hsz
 go_enter Tryz.func133, Tryz.ntmps133
 go_wp2_with fail
 go_loopg [7] (s.size + 2) (fun g s7 wr => ∃ i : Nat, k ≤ i ∧ i ≤ s.size + 1 ∧ s.size + 1 < i + g ∧ s7 = .int .i64 i ∧ (∀ j, k ≤ j → j < i → Lib.hasPrefix (s.data.toList.drop j) t.data.toList = false) ∧ w = wr)
 case atStart => exact ⟨k, by omega, by omega, by omega, rfl, fun j h1 h2 => by omega, rfl⟩
 case round =>
  obtain ⟨i, hi1, hi2, hg, rfl, hj, rfl⟩ := hrel
  have HJ := Lib.hid hj
  clear hj
  by_cases hin : i + t.size ≤ s.size
  ·have g1 : decide ((i : Int) + (t.size : Int) ≤ (s.size : Int)) = true := by simp; omega
   have he := HPE.out i hin
   generalize hb : Lib.hasPrefix (s.data.toList.drop i) t.data.toList = b at he
   have HB := Lib.hid hb
   clear hb
   cases b with
   | true =>
     have HE := Lib.hid (HHIT.out i hi1 (by omega) HJ.out HB.out)
     go_wp2_with fail
     go_ret
     exact ⟨ret_int HE.out.symm, rfl⟩
   | false =>
     go_wp2_with fail
     go_roundg (s.size + 1 - i)
     case measure => omega
     case rel => exact ⟨i + 1, by omega, by omega, by omega, by go_num, fun j h1 h2 => by
      by_cases e : j = i
      ·rw [e]; exact HB.out
      ·exact HJ.out j h1 (by omega), rfl⟩
  ·have g1 : decide ((i : Int) + (t.size : Int) ≤ (s.size : Int)) = false := by simp; omega
   have HE := Lib.hid (HMISS.out i hi1 (by omega) HJ.out)
   go_wp2_with fail
   go_ret
   exact ⟨ret_int HE.out.symm, rfl⟩
end Go.Proofs.YthieinfonomeeaaGreatDoor
namespace Go.Proofs.YthieinfonomeeaaGreatDoor
open Go.RowKit Tit
set_option linter.unusedVariables false
attribute [local go_sem ↓] Go.wp_at_zero Go.wp_at_succ
set_option maxRecDepth 10000 in
theorem lower_any (c : UInt8) (w : World) : Calls Tryz.prog 186 #[.int .u8 (c.toNat : Int)] w fun e w' => e = .returned (.int .u8 ((lowC c).toNat : Int)) ∧ w = w' := by
 have h1 := @lowC_up c
 have h2 := @lowC_id c
 have hx8 := c.toNat_lt
 obtain ⟨y, hy⟩ : ∃ y, y = (lowC c).toNat := ⟨_, rfl⟩
 rw [← hy] at h1 ⊢
 have HY : Hid (¬ (65 ≤ c.toNat ∧ c.toNat ≤ 90) → y = c.toNat) := Lib.hid (fun h => by rw [hy, h2 h])
 have H1 := Lib.hid h1
 clear h1 h2 hy
 generalize c.toNat = x at *
 go_enter Tryz.func186, Tryz.ntmps186
 by_cases h65 : 65 ≤ x
 ·have g1 : decide ((65 : Int) ≤ (x : Int)) = true := by simp; omega
  by_cases h90 : x ≤ 90
  ·have g2 : decide ((x : Int) ≤ 90) = true := by simp; omega
   have HE := Lib.hid (H1.out ⟨h65, h90⟩)
   go_wp2_with fail
   go_ret
   exact ⟨ret_int HE.out.symm, rfl⟩
  ·have g2 : decide ((x : Int) ≤ 90) = false := by simp; omega
   have HE : Hid (y = x) := Lib.hid (HY.out (by omega))
   go_wp2_with fail
   go_ret
   exact ⟨ret_int (by rw [HE.out]), rfl⟩
 ·have g1 : decide ((65 : Int) ≤ (x : Int)) = false := by simp; omega
  have HE : Hid (y = x) := Lib.hid (HY.out (by omega))
  go_wp2_with fail
  go_ret
  exact ⟨ret_int (by rw [HE.out]), rfl⟩
theorem low_get (a : ByteArray) (k : Nat) (hk : k < a.size) : (low a.data.toList)[k]? = some (lowC a[k]) := by
 obtain ⟨h1, h2⟩ := byte_at a k hk
 unfold low
 rw [List.getElem?_map, List.getElem?_eq_getElem h1, h2]
 rfl
set_option maxRecDepth 10000 in
set_option maxHeartbeats 1000000 in
theorem sameLetters_any (a b : ByteArray) (w : World) (ha : a.size ≤ 1000000000) (hb : b.size ≤ 1000000000) : Calls Tryz.prog 173 #[.string a, .string b] w fun e w' => e = .returned (.bool (decide (low a.data.toList = low b.data.toList))) ∧ Below w.heap.size w w' := by
 have hla : (low a.data.toList).length = a.size := by rw [low_len]; simp
 have hlb : (low b.data.toList).length = b.size := by rw [low_len]; simp
 have hga := low_get a
 have hgb := low_get b
 obtain ⟨A, hA⟩ : ∃ A, A = low a.data.toList := ⟨_, rfl⟩
 obtain ⟨B, hB⟩ : ∃ B, B = low b.data.toList := ⟨_, rfl⟩
 rw [← hA] at hla hga ⊢
 rw [← hB] at hlb hgb ⊢
 have HGA := Lib.hid hga
 have HGB := Lib.hid hgb
 have HLA := Lib.hid hla
 have HLB := Lib.hid hlb
 clear hA hB hga hgb hla hlb
 go_enter Tryz.func173, Tryz.ntmps173
 by_cases hs : a.size = b.size
 ·have g0 : ((a.size : Int) != (b.size : Int)) = false := by simp; omega
  have HS := Lib.hid hs
  clear hs
  go_wp2_with fail
  go_loopg [5] (a.size + 1) (fun g s5 wr => ∃ i : Nat, i ≤ a.size ∧ a.size < i + g ∧ s5 = .int .i64 i ∧ A.take i = B.take i ∧ Below w.heap.size w wr)
  case atStart => exact ⟨0, by omega, by omega, rfl, by simp, Below.refl _ _⟩
  case round =>
   obtain ⟨i, hi1, hi2, rfl, heq, hbw⟩ := hrel
   have HEQ := Lib.hid heq
   have HBW := Lib.hid hbw
   clear heq hbw
   by_cases hin : i < a.size
   ·have hib : i < b.size := by rw [← HS.out]; exact hin
    have g1 : decide (i < a.size) = true := by simp; omega
    have hA := HGA.out i hin
    have hB := HGB.out i hib
    have hca := fun x => gr_same (w0 := wr) (w1 := x) (lower_any a[i] (gr wr x))
    have hcb := fun x => gr_same (w0 := wr) (w1 := x) (lower_any b[i] (gr wr x))
    have hinj : ∀ x y : UInt8, x.toNat = y.toNat → x = y := fun x y h => UInt8.toNat_inj.1 h
    have hinj2 := hinj (lowC a[i]) (lowC b[i])
    have hxx : (lowC a[i]).toNat ≠ (lowC b[i]).toNat → A ≠ B := fun h e => by
     rw [e, hB] at hA
     injection hA with hA
     exact h (by rw [hA])
    have hyy : (lowC a[i]).toNat = (lowC b[i]).toNat → A.take (i + 1) = B.take (i + 1) := fun h => by
     rw [List.take_add_one, List.take_add_one, HEQ.out, hA, hB, hinj2 h]
    generalize (lowC a[i]).toNat = x at *
    generalize (lowC b[i]).toNat = y at *
    have HX := Lib.hid hxx
    have HY := Lib.hid hyy
    clear hA hB hinj hinj2 hxx hyy
    obtain ⟨bv, hb0⟩ : ∃ bv, bv = (x != y) := ⟨_, rfl⟩
    have hbv : ((x : Int) != (y : Int)) = bv := by
     rw [hb0, Bool.eq_iff_iff]; simp; omega
    have HB0 := Lib.hid hb0
    clear hb0
    go_upto_region 6 with fail
    go_cut [25] from 17 to 25 (fun s25 wc => s25 = .bool bv ∧ Below wr.heap.size wr wc)
    case first =>
     clear HX HY HEQ HBW HS HGA HGB HLA HLB
     refine wp_region_gr (by kernel_rfl) (by kernel_rfl) ?_
     repeat (go_big_quiet_step (first | (go_at_call 186; with_reducible exact hca _) | (go_at_call 186; with_reducible exact hcb _)))
     with_reducible refine wpQuiet_nil ?_
     intro _ hw'; obtain ⟨w6, hw''⟩ := hw'; subst hw''
     have B6 := gr_below wr w6
     go_wp2_with fail
     go_meet
     case rel => exact ⟨rfl, B6⟩
    case rest =>
     obtain ⟨rfl, hbc⟩ := hcut
     have hb3 := below_then HBW.out hbc
     clear hca hcb hbv
     by_cases hxy : x = y
     ·have g2 : bv = false := by rw [HB0.out]; simpa using hxy
      subst g2
      have HYY := Lib.hid (HY.out hxy)
      clear hxy
      go_wp2_with fail
      go_roundg (a.size - i)
      case measure => omega
      case rel => exact ⟨i + 1, by omega, by omega, by go_num, HYY.out, hb3⟩
     ·have g2 : bv = true := by rw [HB0.out]; simpa using hxy
      subst g2
      have HXX := Lib.hid (HX.out hxy)
      clear hxy
      go_wp2_with fail
      go_ret
      exact ⟨ret_bool (decide_eq_false HXX.out).symm, hb3⟩
   ·have g1 : decide (i < a.size) = false := by simp; omega
    have he : A = B := by
     have := HEQ.out
     rwa [List.take_of_length_le (by rw [HLA.out]; omega), List.take_of_length_le (by rw [HLB.out, ← HS.out]; omega)] at this
    have HE := Lib.hid he
    clear he
    go_wp2_with fail
    go_ret
    exact ⟨ret_bool (decide_eq_true HE.out).symm, HBW.out⟩
 ·have g0 : ((a.size : Int) != (b.size : Int)) = true := by simp; omega
  have HE : Hid (A ≠ B) := Lib.hid (fun e => hs (by rw [← HLA.out, ← HLB.out, e]))
  clear hs
  go_wp2_with fail
  go_ret
  exact ⟨ret_bool (decide_eq_false HE.out).symm, Below.refl _ _⟩
end Go.Proofs.YthieinfonomeeaaGreatDoor
namespace Go.Proofs.YthieinfonomeeaaGreatDoor
open Go.RowKit Tit
set_option linter.unusedVariables false
attribute [local go_sem ↓] Go.wp_at_zero Go.wp_at_succ
theorem spaceName_any (n : Nat) (h1 : 1 ≤ n) (h5 : n ≤ 5) (w : World) : Calls Tryz.prog 174 #[.int .i64 n] w fun e w' => e = .returned (.string ⟨(spn n).toArray⟩) ∧ Below w.heap.size w w' := by
 have hb := below_new0 w (.cells #[.string ⟨#[]⟩, .string ⟨#[84, 97, 108, 107]⟩, .string ⟨#[85, 115, 101, 114]⟩, .string ⟨#[84, 101, 109, 112, 108, 97, 116, 101]⟩, .string ⟨#[67, 97, 116, 101, 103, 111, 114, 121]⟩, .string ⟨#[80, 114, 111, 106, 101, 99, 116]⟩] 9)
 have hc : n = 1 ∨ n = 2 ∨ n = 3 ∨ n = 4 ∨ n = 5 := by omega
 rcases hc with rfl | rfl | rfl | rfl | rfl
 all_goals
  go_enter Tryz.func174, Tryz.ntmps174
  go_wp2_with fail
  go_ret
  exact ⟨rfl, hb⟩
theorem spn_len (n : Nat) (h : n < 6) : (spn n).length ≤ 8 := by
 have : ∀ m, m < 6 → (spn m).length ≤ 8 := by decide
 exact this n h
def preI (s : List UInt8) : Nat × Nat :=
 if (s.takeWhile (· ≠ 58)).length = s.length then (0, 0)
 else match spOf (chop (s.takeWhile (· ≠ 58))) 5 1 with
  | some n => (n, (s.takeWhile (· ≠ 58)).length)
  | none => (0, 0)
theorem chop_ext (s : ByteArray) (h0 : 0 < s.size) : (s[s.size - 1].toNat = 32 → chop s.data.toList = s.data.toList.take (s.size - 1)) ∧ (s[s.size - 1].toNat ≠ 32 → chop s.data.toList = s.data.toList) := by
 have hl := last_at s (s.size - 1) (by omega) (by omega)
 have hz : s.data.toList.length = s.size := by simp
 have h32 : s[s.size - 1] = 32 ↔ s[s.size - 1].toNat = 32 := u8_eq (by decide)
 unfold chop
 rw [hl]
 constructor
 ·intro h
  rw [if_pos (by rw [h32.2 h]), List.dropLast_eq_take, hz]
 ·intro h
  rw [if_neg (fun e => h (h32.1 (Option.some.inj e)))]
set_option maxRecDepth 10000 in
set_option maxHeartbeats 2000000 in
theorem prefixed_any (s : ByteArray) (w : World) (hs : s.size ≤ 100000000) : Calls Tryz.prog 159 #[.string s] w fun e w' => e = .returned (.tuple #[.int .i64 ((preI s.data.toList).1 : Nat), .int .i64 ((preI s.data.toList).2 : Nat)]) ∧ Below w.heap.size w w' := by
 have hz : s.data.toList.length = s.size := by simp
 have hI := fun W => index_any s ⟨#[58]⟩ 0 W (by omega) (by decide) (by decide) (by omega)
 have hidx : idx s.data.toList (⟨#[58]⟩ : ByteArray).data.toList 0 = if (s.data.toList.takeWhile (· ≠ 58)).length = s.data.toList.length then -1 else ((s.data.toList.takeWhile (· ≠ 58)).length : Int) := by
  have : (⟨#[58]⟩ : ByteArray).data.toList = [58] := rfl
  rw [this, idx, List.drop_zero, index_byte]
  split
  ·rfl
  ·rw [if_neg (by omega)]; simp
 rw [hidx] at hI
 have htl := tw_le (· ≠ 58) s.data.toList
 have htk := take_tw 58 s.data.toList
 by_cases hno : (s.data.toList.takeWhile (· ≠ 58)).length = s.data.toList.length
 ·have hp : preI s.data.toList = (0, 0) := by unfold preI; rw [if_pos hno]
  rw [if_pos hno] at hI
  have HI := Lib.hid hI
  have HP := Lib.hid hp
  clear hI hp hno hidx htk
  go_enter Tryz.func159, Tryz.ntmps159
  go_wp2_with fail
  refine (HI.out _).mono ?_
  rintro e w1 ⟨rfl, rfl⟩
  go_wp2_with fail
  go_ret2
  exact ⟨by rw [HP.out]; rfl, Below.refl _ _⟩
 ·have hp : preI s.data.toList = match spOf (chop (s.data.toList.takeWhile (· ≠ 58))) 5 1 with | some n => (n, (s.data.toList.takeWhile (· ≠ 58)).length) | none => (0, 0) := by unfold preI; rw [if_neg hno]
  rw [if_neg hno] at hI
  obtain ⟨T, hT⟩ : ∃ T, T = s.data.toList.takeWhile (· ≠ 58) := ⟨_, rfl⟩
  rw [← hT] at hI hp htl htk
  obtain ⟨k, hk⟩ : ∃ k, k = T.length := ⟨_, rfl⟩
  rw [← hk] at hI hp htl htk
  have hks : k ≤ s.size := by omega
  obtain ⟨p, hpT⟩ : ∃ p, p = chop T := ⟨_, rfl⟩
  rw [← hpT] at hp
  have hpl : p.length ≤ k := by rw [hpT, hk]; exact chop_le T
  have hex : (s.extract 0 k).data.toList = T := by rw [Lib.extract_from_zero, htk]
  have hesz : (s.extract 0 k).size = k := by rw [ByteArray.size_extract]; omega
  have HI := Lib.hid hI
  have HP := Lib.hid hp
  have HPT := Lib.hid hpT
  have HEX := Lib.hid hex
  have hce := chop_ext (s.extract 0 k)
  have HCE := Lib.hid hce
  clear hI hp hno hidx htk hT hk hpT hex hce
  go_enter Tryz.func159, Tryz.ntmps159
  go_wp2_with fail
  refine (HI.out _).mono ?_
  rintro e w1 ⟨rfl, rfl⟩
  obtain ⟨X, hX⟩ : ∃ X, X = s.extract 0 k := ⟨_, rfl⟩
  rw [← hX] at hesz HEX HCE
  obtain ⟨P, hP⟩ : ∃ P : ByteArray, P = ⟨p.toArray⟩ := ⟨_, rfl⟩
  have hPz : P.size = p.length := by rw [hP, Lib.size_mk]
  have hPd : P.data.toList = p := by rw [hP]
  have HX := Lib.hid hX
  have HPd := Lib.hid hPd
  have hPk : P.size ≤ k := by omega
  obtain ⟨bc, hbc⟩ : ∃ bc : Bool, bc = decide (p ≠ T) := ⟨_, rfl⟩
  have HBC := Lib.hid hbc
  clear hX hP hPd hbc
  go_upto_region 4 with fail
  go_cut [5] from 11 to 13 (fun s5 wc => s5 = .string X ∧ w = wc)
  case first =>
   go_wp2_with fail
   go_meet
   case rel => exact ⟨by rw [HX.out], rfl⟩
  case rest =>
   obtain ⟨rfl, rfl⟩ := hcut
   clear HX
   go_upto_region 5 with fail
   go_cut [24] from 14 to 24 (fun s24 wc => s24 = .bool bc ∧ w = wc)
   case first =>
    by_cases hk0 : k = 0
    ·have g1 : decide ((0 : Int) < (k : Int)) = false := by simp; omega
     have hbf : bc = false := by
      have h0 : T = [] := by
       have := congrArg List.length HEX.out
       rw [Array.length_toList, ByteArray.size_data, hesz, hk0] at this
       exact List.length_eq_zero_iff.1 this.symm
      rw [HBC.out, HPT.out, h0]; rfl
     subst hbf
     have g11 : decide (0 < k) = false := by simp; omega
     clear hk0
     go_wp2_with fail
     go_meet
     case rel => exact ⟨rfl, rfl⟩
    ·have g1 : decide ((0 : Int) < (k : Int)) = true := by simp; omega
     have g12 : 0 < k := by omega
     obtain ⟨h1, h2⟩ := HCE.out (by omega)
     simp only [hesz] at h1 h2
     obtain ⟨x, hx⟩ : ∃ x, x = (X[k - 1]'(by omega)).toNat := ⟨_, rfl⟩
     have hbf : bc = decide (x = 32) := by
      rw [HBC.out, HPT.out, ← HEX.out]
      rw [← hx] at h1 h2
      by_cases h32 : x = 32
      ·rw [h1 h32, decide_eq_true h32]
       refine decide_eq_true fun e => ?_
       have := congrArg List.length e
       simp at this; omega
      ·rw [h2 h32, decide_eq_false h32]; simp
     have hbi : ((x : Int) == 32) = bc := by rw [hbf, Bool.eq_iff_iff]; simp; omega
     rw [hx] at hbi
     clear hk0 h1 h2 hbf
     go_wp2_with fail
     go_meet
     case rel => exact ⟨by first | rfl | rw [hbi], rfl⟩
   case rest =>
    obtain ⟨rfl, rfl⟩ := hcut
    go_upto_if 24 with fail
    go_cut [5] from 25 to 29 (fun s5 wc => s5 = .string P ∧ w = wc)
    case first =>
     cases bc with
     | false =>
       have hXP : X = P := ByteArray.ext (Array.toList_inj.1 (by rw [HEX.out, HPd.out]; have := HBC.out; have h2 : p = T := (by simpa using this.symm); exact h2.symm))
       have HXP := Lib.hid hXP
       clear hXP
       go_wp2_with fail
       go_meet
       case rel => exact ⟨by rw [HXP.out], rfl⟩
     | true =>
       have hne : p ≠ T := by have := HBC.out; simpa using this
       have hk0 : 0 < k := by
        rcases Nat.eq_zero_or_pos k with h | h
        ·refine absurd ?_ hne
         have := congrArg List.length HEX.out
         rw [Array.length_toList, ByteArray.size_data, hesz, h] at this
         rw [HPT.out, List.length_eq_zero_iff.1 this.symm]; rfl
        ·exact h
       obtain ⟨h1, h2⟩ := HCE.out (by omega)
       simp only [hesz] at h1 h2
       have hXP : X.extract 0 (k - 1) = P := ByteArray.ext (Array.toList_inj.1 (by
        rw [HPd.out, Lib.extract_from_zero, HPT.out, ← HEX.out]
        by_cases h32 : (X[k - 1]'(by omega)).toNat = 32
        ·rw [h1 h32]
        ·exact absurd (by rw [HPT.out, ← HEX.out, h2 h32]) hne))
       have HXP := Lib.hid hXP
       clear hXP hne h1 h2
       go_wp2_with fail
       go_meet
       case rel => exact ⟨by rw [HXP.out], rfl⟩
    case rest =>
     obtain ⟨rfl, rfl⟩ := hcut
     clear HCE HEX HBC HPT hesz HI
     go_wp2_with fail
     go_loopg [6] 6 (fun g s6 wr => ∃ n : Nat, 1 ≤ n ∧ n ≤ 6 ∧ 6 < n + g ∧ s6 = .int .i64 n ∧ spOf p 5 1 = spOf p (6 - n) n ∧ Below w.heap.size w wr)
     case atStart => exact ⟨1, by omega, by omega, by omega, rfl, rfl, Below.refl _ _⟩
     case round =>
      obtain ⟨n, hn1, hn6, hng, rfl, hsp, hbw⟩ := hrel
      have HSP := Lib.hid hsp
      have HBW := Lib.hid hbw
      clear hsp hbw
      by_cases hn : n < 6
      ·have g1 : decide ((n : Int) < 6) = true := by simp; omega
       have hun : spOf p (6 - n) n = if low p = low (spn n) then some n else spOf p (6 - (n + 1)) (n + 1) := by
        rw [show 6 - n = (6 - (n + 1)) + 1 by omega]; rfl
       have HUN := Lib.hid hun
       have hN := fun W => spaceName_any n hn1 (by omega) W
       have hL := fun W => sameLetters_any P ⟨(spn n).toArray⟩ W (by omega) (by rw [Lib.size_mk]; have : (spn n).length ≤ 8 := spn_len n hn; omega)
       have e1 : (⟨(spn n).toArray⟩ : ByteArray).data.toList = spn n := rfl
       rw [HPd.out, e1] at hL
       generalize hbl : decide (low p = low (spn n)) = bl at hL
       have HBL := Lib.hid hbl
       have HN := Lib.hid hN
       have HL := Lib.hid hL
       clear hun hN hL hbl e1
       go_wp2_with fail
       refine (HN.out _).mono ?_
       rintro e w2 ⟨rfl, hb2⟩
       have HB2 := Lib.hid (below_then HBW.out hb2)
       clear hb2 HN
       go_wp2_with fail
       refine (HL.out _).mono ?_
       rintro e w3 ⟨rfl, hb3⟩
       have HB3 := Lib.hid (below_then HB2.out hb3)
       clear hb3 HL
       cases bl with
       | true =>
         have hq : preI s.data.toList = (n, k) := by rw [HP.out, HSP.out, HUN.out, if_pos (by simpa using HBL.out)]
         have HQ := Lib.hid hq
         clear hq
         go_wp2_with fail
         go_ret2
         exact ⟨by rw [HQ.out]; rfl, HB3.out⟩
       | false =>
         have hq : spOf p 5 1 = spOf p (6 - (n + 1)) (n + 1) := by rw [HSP.out, HUN.out, if_neg (by simpa using HBL.out)]
         have HQ := Lib.hid hq
         clear hq
         go_wp2_with fail
         go_roundg (6 - n)
         case measure => omega
         case rel => exact ⟨n + 1, by omega, by omega, by omega, by go_num, HQ.out, HB3.out⟩
      ·have g1 : decide ((n : Int) < 6) = false := by simp; omega
       have hq : preI s.data.toList = (0, 0) := by rw [HP.out, HSP.out, show 6 - n = 0 by omega]; rfl
       have HQ := Lib.hid hq
       clear hq
       go_wp2_with fail
       go_ret2
       exact ⟨by rw [HQ.out]; rfl, HBW.out⟩
end Go.Proofs.YthieinfonomeeaaGreatDoor
namespace Go.Proofs.YthieinfonomeeaaGreatDoor
open Go.RowKit Tit
set_option linter.unusedVariables false
attribute [local go_sem ↓] Go.wp_at_zero Go.wp_at_succ
theorem data_mk (l : List UInt8) : (⟨l.toArray⟩ : ByteArray).data.toList = l := rfl
theorem tw_at {p : UInt8 → Bool} : ∀ (l : List UInt8) (i : Nat), i ≤ l.length → (∀ j (h : j < l.length), j < i → p l[j] = true) → (∀ h : i < l.length, p l[i] = false) → (l.takeWhile p).length = i
 | [], i, hi, _, _ => by simp at hi; simp [hi]
 | a :: r, 0, _, _, h2 => by
   have := h2 (by simp)
   simp only [List.getElem_cons_zero] at this
   rw [List.takeWhile_cons, this]; rfl
 | a :: r, i + 1, hi, h1, h2 => by
   have ha := h1 0 (by simp) (by omega)
   simp only [List.getElem_cons_zero] at ha
   have ih := tw_at (p := p) r i (by simpa using hi) (fun j h hj => by
    have := h1 (j + 1) (by simpa using h) (by omega)
    simpa using this) (fun h => by
    have := h2 (by simpa using h)
    simpa using this)
   rw [List.takeWhile_cons, ha]
   simp [ih]
theorem bytes_tw {p : UInt8 → Bool} (s : ByteArray) (i : Nat) (hi : i ≤ s.size) (h1 : ∀ j (h : j < s.size), j < i → p s[j] = true) (h2 : ∀ h : i < s.size, p s[i] = false) : (s.data.toList.takeWhile p).length = i := by
 have hz : s.data.toList.length = s.size := by simp
 refine tw_at _ i (by omega) (fun j h hj => ?_) (fun h => ?_)
 ·obtain ⟨_, e⟩ := byte_at s j (by omega)
  rw [← e]; exact h1 j (by omega) hj
 ·obtain ⟨_, e⟩ := byte_at s i (by omega)
  rw [← e]; exact h2 (by omega)
theorem bytes_ext {a b : ByteArray} (h : a.data.toList = b.data.toList) : a = b := ByteArray.ext (Array.toList_inj.1 h)
set_option maxRecDepth 10000 in
set_option maxHeartbeats 1000000 in
theorem cut_any (s : ByteArray) (n : Nat) (w : World) (hs : s.size ≤ 1000000000) (hn : n ≤ s.size) : Calls Tryz.prog 158 #[.string s, .int .i64 n] w fun e w' => e = .returned (.string ⟨(dropOne (s.data.toList.drop n)).toArray⟩) ∧ w = w' := by
 obtain ⟨X, hX⟩ : ∃ X, X = s.extract n s.size := ⟨_, rfl⟩
 have hXd : X.data.toList = s.data.toList.drop n := by rw [hX]; exact Lib.extract_to_end s n
 have hXz : X.size = s.size - n := by rw [hX, ByteArray.size_extract]; omega
 rw [← hXd]
 have hd : (dropOne X.data.toList) = if X.data.toList.head? = some 32 then X.data.toList.tail else X.data.toList := rfl
 have HX := Lib.hid hX
 have HD := Lib.hid hd
 clear hd hXd hX
 go_enter Tryz.func158, Tryz.ntmps158
 go_upto_region 1 with fail
 go_cut [0] from 5 to 7 (fun s0 wc => s0 = .string X ∧ w = wc)
 case first =>
  go_wp2_with fail
  go_meet
  case rel => exact ⟨by rw [HX.out], rfl⟩
 case rest =>
  obtain ⟨rfl, rfl⟩ := hcut
  clear HX
  by_cases h0 : X.size = 0
  ·have g1 : decide (0 < X.size) = false := decide_eq_false (by omega)
   have he : X = ⟨(dropOne X.data.toList).toArray⟩ := by
    have : X.data.toList = [] := List.length_eq_zero_iff.1 (by simpa using h0)
    rw [this]; exact bytes_ext (by rw [this]; rfl)
   have HE := Lib.hid he
   clear he hXz h0
   go_wp2_with fail
   go_ret
   exact ⟨congrArg (fun x => Ending.returned (Value.string x)) HE.out, rfl⟩
  ·have g1 : decide (0 < X.size) = true := decide_eq_true (by omega)
   have g2 : 0 < X.size := by omega
   have hh := head_at X g2
   rw [hh] at HD
   by_cases h32 : X[0].toNat = 32
   ·have h3 : X[0] = 32 := (u8_eq (by decide)).2 h32
    have he : X.extract 1 X.size = ⟨(dropOne X.data.toList).toArray⟩ := bytes_ext (by rw [data_mk, HD.out, if_pos (by rw [h3]), Lib.extract_to_end, List.drop_one])
    have HE := Lib.hid he
    have g3 : ((X[0].toNat : Int) == 32) = true := by simp; omega
    clear he hXz h0 h3 hh HD
    go_wp2_with fail
    go_ret
    exact ⟨congrArg (fun x => Ending.returned (Value.string x)) HE.out, rfl⟩
   ·have g4 : ¬ X[0].toNat = 32 := h32
    have h3 : ¬ X[0] = 32 := fun e => h32 ((u8_eq (by decide)).1 e)
    have he : X = ⟨(dropOne X.data.toList).toArray⟩ := bytes_ext (by rw [data_mk, HD.out, if_neg (fun e => h3 (Option.some.inj e))])
    have HE := Lib.hid he
    have g3 : ((X[0].toNat : Int) == 32) = false := by simp; omega
    clear he hXz h0 h3 hh HD
    go_wp2_with fail
    go_ret
    exact ⟨congrArg (fun x => Ending.returned (Value.string x)) HE.out, rfl⟩
def skp (tab : Bool) (c : UInt8) : Bool := c == 32 || c == 95 || (tab && c == 9)
set_option maxRecDepth 10000 in
set_option maxHeartbeats 1000000 in
theorem skip_any (s : ByteArray) (tab : Bool) (w : World) (hs : s.size ≤ 1000000000) : Calls Tryz.prog 137 #[.string s, .bool tab] w fun e w' => e = .returned (.int .i64 ((s.data.toList.takeWhile (skp tab)).length : Nat)) ∧ w = w' := by
 have hz : s.data.toList.length = s.size := by simp
 have hba := byte_at s
 have HBA := Lib.hid hba
 clear hba
 go_enter Tryz.func137, Tryz.ntmps137
 go_wp2_with fail
 go_loopg [5] (s.size + 1) (fun g s5 wr => ∃ i : Nat, i ≤ s.size ∧ s.size < i + g ∧ s5 = .int .i64 i ∧ (∀ j (h : j < s.size), j < i → skp tab s[j] = true) ∧ w = wr)
 case atStart => exact ⟨0, by omega, by omega, rfl, fun j h h2 => by omega, rfl⟩
 case round =>
  obtain ⟨i, hi1, hg, rfl, hj, rfl⟩ := hrel
  have HJ := Lib.hid hj
  clear hj
  obtain ⟨b, hb⟩ : ∃ b, b = (if h : i < s.size then skp tab s[i] else false) := ⟨_, rfl⟩
  have HB := Lib.hid hb
  clear hb
  go_upto_region 2 with fail
  go_cut [30] from 6 to 30 (fun s30 wc => s30 = .bool b ∧ w = wc)
  case first =>
   by_cases hin : i < s.size
   ·have g1 : decide (i < s.size) = true := by simp; omega
    have hb := HB.out
    rw [dif_pos hin] at hb
    have h32 : s[i] = 32 ↔ s[i].toNat = 32 := u8_eq (by decide)
    have h95 : s[i] = 95 ↔ s[i].toNat = 95 := u8_eq (by decide)
    have h9 : s[i] = 9 ↔ s[i].toNat = 9 := u8_eq (by decide)
    have hbb : b = ((s[i].toNat == 32) || (s[i].toNat == 95) || (tab && s[i].toNat == 9)) := by
     rw [hb, Bool.eq_iff_iff]; unfold skp; simp [h32, h95, h9]
    clear hb h32 h95 h9
    obtain ⟨x, hx⟩ : ∃ x, s[i].toNat = x := ⟨_, rfl⟩
    rw [hx] at hbb
    have HBB := Lib.hid hbb
    clear hbb
    by_cases c1 : x = 32
    ·have hbt : b = true := by rw [HBB.out]; simp [c1]
     subst hbt
     go_wp2_with fail
     go_meet
     case rel => exact ⟨rfl, rfl⟩
    ·have k1 : ((x : Int) == 32) = false := by simp; omega
     by_cases c2 : x = 95
     ·have hbt : b = true := by rw [HBB.out]; simp [c2]
      subst hbt
      go_wp2_with fail
      go_meet
      case rel => exact ⟨rfl, rfl⟩
     ·have k2 : ((x : Int) == 95) = false := by simp; omega
      cases tab with
      | false =>
        have hbt : b = false := by rw [HBB.out]; simp [c1, c2]
        subst hbt
        go_wp2_with fail
        go_meet
        case rel => exact ⟨rfl, rfl⟩
      | true =>
        by_cases c3 : x = 9
        ·have hbt : b = true := by rw [HBB.out]; simp [c3]
         subst hbt
         go_wp2_with fail
         go_meet
         case rel => exact ⟨rfl, rfl⟩
        ·have k3 : ((x : Int) == 9) = false := by simp; omega
         have hbt : b = false := by rw [HBB.out]; simp [c1, c2, c3]
         subst hbt
         go_wp2_with fail
         go_meet
         case rel => exact ⟨rfl, rfl⟩
   ·have g1 : decide (i < s.size) = false := by simp; omega
    have hbt : b = false := by rw [HB.out, dif_neg hin]
    subst hbt
    go_wp2_with fail
    go_meet
    case rel => exact ⟨rfl, rfl⟩
  case rest =>
   obtain ⟨rfl, rfl⟩ := hcut
   cases b with
   | true =>
     have hin : i < s.size := by
      have := HB.out
      by_cases h : i < s.size
      ·exact h
      ·rw [dif_neg h] at this; cases this
     have hk : skp tab s[i] = true := by have := HB.out; rw [dif_pos hin] at this; exact this.symm
     have HK := Lib.hid hk
     clear hk
     go_wp2_with fail
     go_roundg (s.size - i)
     case measure => omega
     case rel => exact ⟨i + 1, by omega, by omega, by go_num, fun j h1 h2 => by
      by_cases e : j = i
      ·subst e; exact HK.out
      ·exact HJ.out j h1 (by omega), rfl⟩
   | false =>
     have hr : (s.data.toList.takeWhile (skp tab)).length = i := bytes_tw s i hi1 HJ.out (fun h => by have := HB.out; rw [dif_pos h] at this; exact this.symm)
     have HR := Lib.hid hr
     clear hr
     go_wp2_with fail
     go_ret
     exact ⟨by rw [HR.out]; rfl, rfl⟩
end Go.Proofs.YthieinfonomeeaaGreatDoor
namespace Go.Proofs.YthieinfonomeeaaGreatDoor
open Go.RowKit Tit
set_option linter.unusedVariables false
attribute [local go_sem ↓] Go.wp_at_zero Go.wp_at_succ
theorem one_data (s : ByteArray) (i : Nat) (h : i < s.size) : (s.extract i (i + 1)).data.toList = [s[i]] := by
 obtain ⟨h1, h2⟩ := byte_at s i h
 rw [Lib.extract_data, h2, show i + 1 - i = 1 by omega, List.take_one, List.head?_drop, List.getElem?_eq_getElem h1]
 rfl
theorem drop_byte (s : ByteArray) (i : Nat) (h : i < s.size) : s.data.toList.drop i = s[i] :: s.data.toList.drop (i + 1) := by
 obtain ⟨h1, h2⟩ := byte_at s i h
 rw [List.drop_eq_getElem_cons h1, h2]
theorem app_data (a b : ByteArray) : (a ++ b).data.toList = a.data.toList ++ b.data.toList := by simp
set_option maxRecDepth 10000 in
set_option maxHeartbeats 2000000 in
theorem blanks_any (s : ByteArray) (w : World) (hs : s.size ≤ 1000000000) : Calls Tryz.prog 157 #[.string s] w fun e w' => e = .returned (.string ⟨(sq s.data.toList).toArray⟩) ∧ w = w' := by
 have hz : s.data.toList.length = s.size := by simp
 obtain ⟨l, hl⟩ : ∃ l, l = s.data.toList := ⟨_, rfl⟩
 have hdb := drop_byte s
 rw [← hl] at hdb hz ⊢
 have hsq : sq l = chop (sqF [] l) := rfl
 have HSQ := Lib.hid hsq
 have HDB := Lib.hid hdb
 clear hsq hdb hl
 go_enter Tryz.func157, Tryz.ntmps157
 go_wp2_with fail
 go_loopg [3, 4, 5] (s.size + 1) (fun g s3 s4 s5 wr => ∃ (i : Nat) (o : ByteArray), i ≤ s.size ∧ s.size < i + g ∧ s3 = .string o ∧ s4 = .int .i64 i ∧ o.size ≤ i ∧ sqF [] l = sqF o.data.toList (l.drop i) ∧ w = wr)
 case atStart => exact ⟨0, ⟨#[]⟩, by omega, by omega, rfl, rfl, by decide, rfl, rfl⟩
 case round =>
  obtain ⟨i, o, hi1, hg, rfl, rfl, ho, hq, rfl⟩ := hrel
  have HQ := Lib.hid hq
  clear hq
  by_cases hin : i < s.size
  ·have g1 : decide (i < s.size) = true := decide_eq_true hin
   obtain ⟨c, hc⟩ : ∃ c, c = s[i] := ⟨_, rfl⟩
   obtain ⟨E, hE⟩ : ∃ E, E = s.extract i (i + 1) := ⟨_, rfl⟩
   have hEd : E.data.toList = [c] := by rw [hE, one_data s i hin, hc]
   have hdi := HDB.out i hin
   rw [← hc] at hdi
   have HC := Lib.hid hc
   have HE := Lib.hid hE
   have HED := Lib.hid hEd
   have HDI := Lib.hid hdi
   clear hc hE hEd hdi
   go_upto_region 5 with fail
   go_cut [5] from 12 to 16 (fun s5 wc => s5 = .string E ∧ w = wc)
   case first =>
    go_wp2_with fail
    go_meet
    case rel => exact ⟨by rw [HE.out], rfl⟩
   case rest =>
    obtain ⟨rfl, rfl⟩ := hcut
    clear HE HC
    obtain ⟨U, hU⟩ : ∃ U : ByteArray, U = ⟨[unb c].toArray⟩ := ⟨_, rfl⟩
    have HU := Lib.hid hU
    obtain ⟨b, hb⟩ : ∃ b, b = decide (c = 95) := ⟨_, rfl⟩
    have hbe : (E.toList == [95]) = b := by
     rw [ByteArray.toList_eq, HED.out, hb, Bool.eq_iff_iff]; simp
    have hUd : U.data.toList = [unb c] := by rw [hU]
    have hEU : b = false → E = U := fun h => bytes_ext (by
     rw [HED.out, hUd]; unfold unb; rw [if_neg (by rw [h] at hb; simpa using hb.symm)])
    have hCU : b = true → U = ⟨#[32]⟩ := fun h => by
     rw [hU]; have : c = 95 := by rw [h] at hb; simpa using hb.symm
     rw [this]; rfl
    have HEU := Lib.hid hEU
    have HCU := Lib.hid hCU
    have HUD := Lib.hid hUd
    clear hU hb hUd hEU hCU
    go_upto_if 18 with fail
    go_cut [5] from 10 to 18 (fun s5 wc => s5 = .string U ∧ w = wc)
    case first =>
     cases b with
     | true =>
       go_wp2_with fail
       go_meet
       case rel => exact ⟨by rw [HCU.out (by first | rfl | trivial)], by trivial⟩
     | false =>
       go_wp2_with fail
       go_meet
       case rel => exact ⟨by rw [HEU.out (by first | rfl | trivial)], by trivial⟩
    case rest =>
     obtain ⟨rfl, rfl⟩ := hcut
     clear hbe HEU HCU HU
     obtain ⟨u, hu⟩ : ∃ u, u = unb c := ⟨_, rfl⟩
     rw [← hu] at HUD
     have hst : sqF o.data.toList (l.drop i) = if u = 32 ∧ (o.data.toList = [] ∨ o.data.toList.getLast? = some 32) then sqF o.data.toList (l.drop (i + 1)) else sqF (o.data.toList ++ [u]) (l.drop (i + 1)) := by
      rw [HDI.out, hu]; rfl
     obtain ⟨q, hq⟩ : ∃ q, q = decide (u = 32 ∧ (o.data.toList = [] ∨ o.data.toList.getLast? = some 32)) := ⟨_, rfl⟩
     have HST := Lib.hid hst
     have HQB := Lib.hid hq
     clear hst hq hu
     go_upto_region 8 with fail
     go_cut [32] from 10 to 32 (fun s32 wc => s32 = .bool q ∧ w = wc)
     case first =>
      by_cases h32 : u = 32
      ·have hbu : (U.toList == [32]) = true := by rw [ByteArray.toList_eq, HUD.out, h32]; rfl
       by_cases h0 : o.data.toList = []
       ·have g0 := empty_yes h0
        have hqt : q = true := by rw [HQB.out]; exact decide_eq_true ⟨h32, .inl h0⟩
        subst hqt
        clear h32 h0
        go_wp2_with fail
        go_meet
        case rel => exact ⟨rfl, rfl⟩
       ·have g0 := empty_no h0
        have hoz : 0 < o.size := by
         have : o.data.toList.length = o.size := by simp
         rw [← this]; exact List.length_pos_iff.2 h0
        have hla := last_at o (o.size - 1) (by omega) (by omega)
        have h32' : o[o.size - 1] = 32 ↔ o[o.size - 1].toNat = 32 := u8_eq (by decide)
        have hqv : ((o[o.size - 1].toNat : Int) == 32) = q := by
         rw [HQB.out, hla, Bool.eq_iff_iff]
         simp only [beq_iff_eq, decide_eq_true_eq]
         constructor
         ·intro h; exact ⟨h32, .inr (by rw [h32'.2 (by omega)])⟩
         ·rintro ⟨_, h | h⟩
          ·exact absurd h h0
          ·have := h32'.1 (Option.some.inj h); omega
        have HQV := Lib.hid hqv
        clear h32 h0 hla h32' hqv
        go_wp2_with fail
        go_meet
        case rel => exact ⟨by rw [HQV.out], rfl⟩
      ·have hbu : (U.toList == [32]) = false := by
        rw [ByteArray.toList_eq, HUD.out, Bool.eq_false_iff]; simp; exact h32
       have hqt : q = false := by rw [HQB.out]; exact decide_eq_false (fun h => h32 h.1)
       subst hqt
       clear h32
       go_wp2_with fail
       go_meet
       case rel => exact ⟨rfl, rfl⟩
     case rest =>
      obtain ⟨rfl, rfl⟩ := hcut
      cases q with
      | true =>
        have hn : sqF [] l = sqF o.data.toList (l.drop (i + 1)) := by rw [HQ.out, HST.out, if_pos (by simpa using HQB.out.symm)]
        have HN := Lib.hid hn
        clear hn
        go_wp2_with fail
        go_roundg (s.size - i)
        case measure => omega
        case rel => exact ⟨i + 1, o, by omega, by omega, rfl, by go_num, by omega, HN.out, rfl⟩
      | false =>
        have hn : sqF [] l = sqF (o ++ U).data.toList (l.drop (i + 1)) := by rw [HQ.out, HST.out, if_neg (by simpa using HQB.out.symm), app_data, HUD.out]
        have HN := Lib.hid hn
        have hUz : U.size = 1 := by
         have : U.data.toList.length = U.size := by simp
         rw [← this, HUD.out]; rfl
        have hoU : (o ++ U).size ≤ i + 1 := by rw [ByteArray.size_append]; omega
        have HOU := Lib.hid hoU
        clear hn hoU
        go_wp2_with fail
        go_roundg (s.size - i)
        case measure => omega
        case rel => exact ⟨i + 1, o ++ U, by omega, by omega, rfl, by go_num, HOU.out, HN.out, rfl⟩
  ·have g1 : decide (i < s.size) = false := decide_eq_false hin
   have hfin : sq l = chop o.data.toList := by rw [HSQ.out, HQ.out, List.drop_eq_nil_of_le (by omega)]; rfl
   have HF := Lib.hid hfin
   clear hfin
   have hin2 : i = s.size := by omega
   by_cases h0 : 0 < o.size
   ·have g2 : decide (0 < o.size) = true := decide_eq_true h0
    obtain ⟨h1, h2⟩ := chop_ext o h0
    by_cases h32 : o[o.size - 1].toNat = 32
    ·have g3 : ((o[o.size - 1].toNat : Int) == 32) = true := by simp; omega
     have he : o.extract 0 (o.size - 1) = ⟨(sq l).toArray⟩ := bytes_ext (by rw [data_mk, HF.out, h1 h32, Lib.extract_from_zero])
     have HE := Lib.hid he
     clear he h1 h2 h32 hin2
     go_wp2_with fail
     go_ret
     exact ⟨congrArg (fun x => Ending.returned (Value.string x)) HE.out, rfl⟩
    ·have g3 : ((o[o.size - 1].toNat : Int) == 32) = false := by simp; omega
     have he : o = ⟨(sq l).toArray⟩ := bytes_ext (by rw [data_mk, HF.out, h2 h32])
     have HE := Lib.hid he
     clear he h1 h2 hin2
     go_wp2_with fail
     go_ret
     exact ⟨congrArg (fun x => Ending.returned (Value.string x)) HE.out, rfl⟩
   ·have g2 : decide (0 < o.size) = false := decide_eq_false h0
    have hn0 : o.data.toList = [] := List.length_eq_zero_iff.1 (by have : o.data.toList.length = o.size := (by simp); omega)
    have he : o = ⟨(sq l).toArray⟩ := bytes_ext (by rw [data_mk, HF.out, hn0]; rfl)
    have HE := Lib.hid he
    clear he hn0 hin2
    go_wp2_with fail
    go_ret
    exact ⟨congrArg (fun x => Ending.returned (Value.string x)) HE.out, rfl⟩
end Go.Proofs.YthieinfonomeeaaGreatDoor
namespace Go.Proofs.YthieinfonomeeaaGreatDoor
open Go.RowKit Tit
set_option linter.unusedVariables false
attribute [local go_sem ↓] Go.wp_at_zero Go.wp_at_succ
def glue (x : List UInt8) : List (List UInt8) → List (List UInt8)
 | [] => [x]
 | y :: z => (x ++ y) :: z
theorem segs_ne (l : List UInt8) : segs l ≠ [] := by
 cases l with
 | nil => simp [segs]
 | cons c r =>
   unfold segs
   split
   ·simp
   ·split <;> simp
theorem glue_nil (l : List UInt8) : glue [] (segs l) = segs l := by
 cases h : segs l with
 | nil => exact absurd h (segs_ne l)
 | cons y z => rfl
theorem glue_slash (x r : List UInt8) : glue x (segs (47 :: r)) = x :: segs r := by
 rw [segs, if_pos rfl]; simp [glue]
theorem glue_byte (x r : List UInt8) {c : UInt8} (h : ¬ c = 47) : glue x (segs (c :: r)) = glue (x ++ [c]) (segs r) := by
 rw [segs, if_neg h]
 cases hr : segs r with
 | nil => exact absurd hr (segs_ne r)
 | cons y z => simp [glue]
set_option maxRecDepth 10000 in
set_option maxHeartbeats 2000000 in
theorem parts_any (s : ByteArray) (w : World) (hs : s.size ≤ 1000000000) : Calls Tryz.prog 175 #[.string s] w fun e w' => ∃ v, e = .returned v ∧ SOwn w.heap.size w' v (segs s.data.toList) ∧ Below w.heap.size w w' := by
 have hz : s.data.toList.length = s.size := by simp
 obtain ⟨l, hl⟩ : ∃ l, l = s.data.toList := ⟨_, rfl⟩
 have hdb := drop_byte s
 have hod := one_data s
 rw [← hl] at hdb hz ⊢
 have HDB := Lib.hid hdb
 have HOD := Lib.hid hod
 have hS0 := SOwn.one w []
 have hb0 := below_new0 w (.cells #[.string ⟨#[]⟩] 9)
 have HS0 := Lib.hid hS0
 clear hdb hl hod hS0
 go_enter Tryz.func175, Tryz.ntmps175
 go_wp2_with fail
 go_loopg [3, 4] (s.size + 1) (fun g s3 s4 wr => ∃ (i : Nat) (P : List (List UInt8)) (x : List UInt8), i ≤ s.size ∧ s.size < i + g ∧ s4 = .int .i64 i ∧ SOwn w.heap.size wr s3 (P ++ [x]) ∧ x.length ≤ i ∧ P.length ≤ i ∧ segs l = P ++ glue x (segs (l.drop i)) ∧ Below w.heap.size w wr)
 case atStart => exact ⟨0, [], [], by omega, by omega, rfl, HS0.out, by simp, by simp, by simp [glue_nil], hb0⟩
 case round =>
  obtain ⟨i, P, x, hi1, hg, rfl, hown, hxi, hPi, hseg, hbw⟩ := hrel
  have hbz := hbw.size
  have hn : (P ++ [x]).length = P.length + 1 := by simp
  obtain ⟨g, cap, hv, hob, hBg, hgz, hcell, hfr⟩ := hown.block (by omega)
  have hc1 := hcell P.length (by omega)
  have hf1 := hfr P.length
  have e1 : (P ++ [x])[P.length]'(by omega) = x := by simp
  rw [e1] at hc1
  rw [hn] at hv
  subst hv
  obtain ⟨m, hm⟩ : ∃ m, m = P.length := ⟨_, rfl⟩
  rw [← hm] at hc1 hf1 hPi hn ⊢
  rw [← hm] at hob hown
  have HM := Lib.hid hm
  have HSEG := Lib.hid hseg
  have HBW := Lib.hid hbw
  have HOWN := Lib.hid hown
  clear hseg hbw hown hm hcell hfr e1 hn hob
  by_cases hin : i < s.size
  ·have g1 : decide (i < s.size) = true := decide_eq_true hin
   have h47 : s[i] = 47 ↔ s[i].toNat = 47 := u8_eq (by decide)
   have hdi := HDB.out i hin
   have hoi := HOD.out i hin
   obtain ⟨c, hc⟩ : ∃ c, c = s[i] := ⟨_, rfl⟩
   rw [← hc] at hdi hoi h47
   obtain ⟨E, hE⟩ : ∃ E, E = s.extract i (i + 1) := ⟨_, rfl⟩
   rw [← hE] at hoi
   have HE := Lib.hid hE
   have HC := Lib.hid hc
   have HDI := Lib.hid hdi
   have HOI := Lib.hid hoi
   clear hE hc hdi hoi
   by_cases h1 : c.toNat = 47
   ·have g2 : ((s[i].toNat : Int) == 47) = true := by rw [← HC.out]; simp; omega
    have hn : segs l = (P ++ [x]) ++ glue [] (segs (l.drop (i + 1))) := by
     rw [HSEG.out, HDI.out, h47.2 h1, glue_slash, glue_nil]; simp
    have HN := Lib.hid hn
    have HOA := Lib.hid (HOWN.out.below (below_new0 wr (.cells #[.string ⟨#[]⟩] 9)))
    have HSB := Lib.hid (src_str wr 9 [])
    clear hn h47 h1
    go_wp2_with (at_builtin; go_must (refine append_strs _ rfl _ _ rfl HOA.out rfl HSB.out rfl (by simp [← HM.out]; omega) (by simp; omega) ?_); intro v' w3 hown3 hgr hat)
    have HOW3 := Lib.hid hown3
    have HB3 := Lib.hid (below_strs (HBW.out.trans ((below_new0 wr _).mono hbz)) HOA.out hgr (by simp; omega))
    clear hown3 hgr hat
    go_wp2_with fail
    go_roundg (s.size - i)
    case measure => omega
    case rel => exact ⟨i + 1, P ++ [x], [], by omega, by omega, by go_num, HOW3.out, by simp, by rw [List.length_append, ← HM.out]; simp; omega, HN.out, HB3.out⟩
   ·have g2 : ((s[i].toNat : Int) == 47) = false := by rw [← HC.out]; simp; omega
    have hn : segs l = P ++ glue (x ++ [c]) (segs (l.drop (i + 1))) := by
     rw [HSEG.out, HDI.out, glue_byte _ _ (fun e => h1 (h47.1 e))]
    have HN := Lib.hid hn
    clear hn h47 h1
    obtain ⟨X, hX⟩ : ∃ X : ByteArray, X = ⟨x.toArray⟩ := ⟨_, rfl⟩
    have hXz : X.size ≤ i := by rw [hX, Lib.size_mk]; exact hxi
    rw [← hX] at hc1
    have hEz : (s.extract i (i + 1)).size = 1 := by rw [ByteArray.size_extract]; omega
    have hXE : X ++ s.extract i (i + 1) = ⟨(x ++ [c]).toArray⟩ := bytes_ext (by rw [app_data, hX, ← HE.out, HOI.out])
    have HXE := Lib.hid hXE
    clear hX hXE
    go_upto_region 7 with fail
    go_region
    go_wp2_with fail
    go_roundg (s.size - i)
    case measure => omega
    case rel => exact ⟨i + 1, P, x ++ [c], by omega, by omega, by go_num, by
     have hp := HOWN.out.put (g := g) rfl m (x ++ [c]) (by simp [← HM.out])
     rw [HXE.out]
     have hset : (P ++ [x]).set m (x ++ [c]) = P ++ [x ++ [c]] := by rw [HM.out, List.set_append_right _ _ (Nat.le_refl _)]; simp
     rw [hset] at hp
     exact own_on hp (fun k _ => rfl), by simp; omega, by rw [← HM.out]; omega, HN.out, (HBW.out.setCell (p := ⟨g, m, none⟩) hBg _).drew⟩
  ·have g1 : decide (i < s.size) = false := decide_eq_false hin
   have hfin : segs l = P ++ [x] := by rw [HSEG.out, List.drop_eq_nil_of_le (by omega)]; simp [segs, glue]
   have HF := Lib.hid hfin
   clear hfin hin
   go_wp2_with fail
   go_ret
   exact ⟨_, rfl, by rw [HF.out]; exact HOWN.out, HBW.out⟩
end Go.Proofs.YthieinfonomeeaaGreatDoor
