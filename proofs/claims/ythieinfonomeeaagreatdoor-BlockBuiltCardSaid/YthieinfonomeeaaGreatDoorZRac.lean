/-
  The claim's own texts, packed. Conditions: those typed in each theorem.
-/
import Derived.Test.YthieinfonomeeaaGreatDoorZCab
import Derived.Test.YthieinfonomeeaaGreatDoorZAas
namespace Go.Proofs.YthieinfonomeeaaGreatDoor
open Go.RowKit Doc Tit Inl Blk
set_option linter.unusedVariables false
attribute [local go_sem ↓] Go.wp_at_zero Go.wp_at_succ
theorem bt_eq (c : UInt8) : bt c = (decide (c.toNat = 9) || decide (c.toNat = 32)) := by
 have a1 : c = 9 ↔ c.toNat = 9 := u8_eq (by decide)
 have a4 : c = 32 ↔ c.toNat = 32 := u8_eq (by decide)
 unfold bt
 rw [Bool.eq_iff_iff]
 simp [a1, a4]
theorem trimW_rtrim (p : UInt8 → Bool) (l : List UInt8) : trimW p l = rtrim p (l.dropWhile p) := rfl
theorem dw_first (p : UInt8 → Bool) (X : ByteArray) (h0 : 0 < X.size) (hp : p X[0] = true) : (X.extract 1 X.size).data.toList.dropWhile p = X.data.toList.dropWhile p := by
 rw [first_cons X h0, List.dropWhile_cons, hp]; rfl
theorem dw_stay (p : UInt8 → Bool) (X : ByteArray) (h : ∀ h0 : 0 < X.size, p X[0] = false) : X.data.toList.dropWhile p = X.data.toList := by
 by_cases h0 : 0 < X.size
 ·rw [first_cons X h0, List.dropWhile_cons, h h0]; rfl
 ·have : X.data.toList = [] := List.length_eq_zero_iff.1 (by have : X.data.toList.length = X.size := (by simp); omega)
  rw [this]; rfl
theorem rt_last (p : UInt8 → Bool) (Y : ByteArray) (m : Nat) (h : Y.size = m + 1) (hp : p (Y[m]'(by omega)) = true) : rtrim p (Y.extract 0 m).data.toList = rtrim p Y.data.toList := by
 unfold rtrim
 rw [last_snoc Y m h, List.reverse_append, List.reverse_singleton, List.singleton_append, List.dropWhile_cons, hp]; rfl
theorem rt_stay (p : UInt8 → Bool) (Y : ByteArray) (h : ∀ m (h : Y.size = m + 1), p (Y[m]'(by omega)) = false) : rtrim p Y.data.toList = Y.data.toList := by
 by_cases h0 : 0 < Y.size
 ·obtain ⟨m, hm⟩ : ∃ m, Y.size = m + 1 := ⟨Y.size - 1, by omega⟩
  have e := last_snoc Y m hm
  have e2 : Y.data.toList.reverse.dropWhile p = Y.data.toList.reverse := by
   rw [e, List.reverse_append, List.reverse_singleton, List.singleton_append, List.dropWhile_cons, h m hm]; rfl
  unfold rtrim
  rw [e2, List.reverse_reverse]
 ·have : Y.data.toList = [] := List.length_eq_zero_iff.1 (by have : Y.data.toList.length = Y.size := (by simp); omega)
  rw [this]; rfl
set_option maxRecDepth 10000 in
set_option maxHeartbeats 1000000 in
theorem rtrimEnd_any (s : ByteArray) (w : World) (hs : s.size ≤ 100000000) : Calls Tryz.prog 103 #[.string s] w fun e w' => e = .returned (.string ⟨(rtrim bt s.data.toList).toArray⟩) ∧ w = w' := by
 obtain ⟨l, hl⟩ : ∃ l, l = rtrim bt s.data.toList := ⟨_, rfl⟩
 rw [← hl]
 have HL := Lib.hid hl
 clear hl
 go_enter Tryz.func103, Tryz.ntmps103
 go_wp2_with fail
 go_loopg [0] (s.size + 1) (fun g s0 wr => ∃ Y : ByteArray, Y.size < g ∧ Y.size ≤ s.size ∧ s0 = .string Y ∧ rtrim bt Y.data.toList = l ∧ w = wr)
 case atStart => exact ⟨s, by omega, by omega, rfl, HL.out.symm, rfl⟩
 case round =>
  obtain ⟨Y, hYg, hYs, rfl, hq, rfl⟩ := hrel
  have HQ := Lib.hid hq
  clear hq
  by_cases h0 : 0 < Y.size
  ·have g0 : decide (0 < Y.size) = true := decide_eq_true h0
   have hst := rt_last bt Y (Y.size - 1) (by omega)
   have hsy := fun h => rt_stay bt Y h
   obtain ⟨c, hc⟩ : ∃ c, c = Y[Y.size - 1]'(by omega) := ⟨_, rfl⟩
   rw [← hc] at hst
   have hsy : bt c = false → rtrim bt Y.data.toList = Y.data.toList := fun h => hsy fun m' h' => by
    have : m' = Y.size - 1 := by omega
    subst this
    rw [← hc]; exact h
   have hnz : (Y.extract 0 (Y.size - 1)).size = Y.size - 1 := by rw [ByteArray.size_extract]; omega
   rw [bt_eq] at hst hsy
   have HST := Lib.hid hst
   have HSY := Lib.hid hsy
   have HNZ := Lib.hid hnz
   have HC := Lib.hid hc
   clear hst hsy hnz hc
   by_cases c1 : c.toNat = 9
   ·have g1 : (((Y[Y.size - 1]'(by omega)).toNat : Int) == 9) = true := by rw [← HC.out]; simp; omega
    have HN := Lib.hid ((HST.out (by simp [c1])).trans HQ.out)
    clear c1
    go_wp2_with fail
    go_roundg Y.size
    case measure => omega
    case rel => exact ⟨Y.extract 0 (Y.size - 1), by rw [HNZ.out]; omega, by rw [HNZ.out]; omega, rfl, HN.out, rfl⟩
   ·have g1 : (((Y[Y.size - 1]'(by omega)).toNat : Int) == 9) = false := by rw [← HC.out]; simp; omega
    by_cases c2 : c.toNat = 32
    ·have g2 : (((Y[Y.size - 1]'(by omega)).toNat : Int) == 32) = true := by rw [← HC.out]; simp; omega
     have HN := Lib.hid ((HST.out (by simp [c2])).trans HQ.out)
     clear c1 c2
     go_wp2_with fail
     go_roundg Y.size
     case measure => omega
     case rel => exact ⟨Y.extract 0 (Y.size - 1), by rw [HNZ.out]; omega, by rw [HNZ.out]; omega, rfl, HN.out, rfl⟩
    ·have g2 : (((Y[Y.size - 1]'(by omega)).toNat : Int) == 32) = false := by rw [← HC.out]; simp; omega
     have hr : Y = ⟨l.toArray⟩ := bytes_ext (by rw [data_mk, ← HQ.out, HSY.out (by simp [c1, c2])])
     have HR := Lib.hid hr
     clear hr c1 c2
     go_wp2_with fail
     go_ret
     exact ⟨congrArg (fun x => Ending.returned (Value.string x)) HR.out, rfl⟩
  ·have g0 : decide (0 < Y.size) = false := decide_eq_false h0
   have hr : Y = ⟨l.toArray⟩ := bytes_ext (by rw [data_mk, ← HQ.out, rt_stay bt Y (fun m h => by omega)])
   have HR := Lib.hid hr
   clear hr
   go_wp2_with fail
   go_ret
   exact ⟨congrArg (fun x => Ending.returned (Value.string x)) HR.out, rfl⟩
set_option maxRecDepth 10000 in
set_option maxHeartbeats 1000000 in
theorem rtrim5_any (s : ByteArray) (w : World) (hs : s.size ≤ 100000000) : Calls Tryz.prog 104 #[.string s] w fun e w' => e = .returned (.string ⟨(trimW bt s.data.toList).toArray⟩) ∧ w = w' := by
 obtain ⟨l, hl⟩ : ∃ l, l = s.data.toList.dropWhile bt := ⟨_, rfl⟩
 rw [trimW_rtrim, ← hl]
 have HL := Lib.hid hl
 clear hl
 go_enter Tryz.func104, Tryz.ntmps104
 go_wp2_with fail
 go_loopg [0] (s.size + 1) (fun g s0 wr => ∃ Y : ByteArray, Y.size < g ∧ Y.size ≤ s.size ∧ s0 = .string Y ∧ Y.data.toList.dropWhile bt = l ∧ w = wr)
 case atStart => exact ⟨s, by omega, by omega, rfl, HL.out.symm, rfl⟩
 case round =>
  obtain ⟨Y, hYg, hYs, rfl, hq, rfl⟩ := hrel
  have HQ := Lib.hid hq
  clear hq
  have hE := rtrimEnd_any Y w (by omega)
  by_cases h0 : 0 < Y.size
  ·have g0 : decide (0 < Y.size) = true := decide_eq_true h0
   have hst := dw_first bt Y h0
   have hsy := dw_stay bt Y
   obtain ⟨c, hc⟩ : ∃ c, c = Y[0] := ⟨_, rfl⟩
   rw [← hc] at hst
   have hsy : bt c = false → Y.data.toList.dropWhile bt = Y.data.toList := fun h => hsy fun _ => by rw [← hc]; exact h
   have hnz : (Y.extract 1 Y.size).size = Y.size - 1 := by rw [ByteArray.size_extract]; omega
   rw [bt_eq] at hst hsy
   have HST := Lib.hid hst
   have HSY := Lib.hid hsy
   have HNZ := Lib.hid hnz
   have HC := Lib.hid hc
   clear hst hsy hnz hc
   by_cases c1 : c.toNat = 9
   ·have g1 : ((Y[0].toNat : Int) == 9) = true := by rw [← HC.out]; simp; omega
    have HN := Lib.hid ((HST.out (by simp [c1])).trans HQ.out)
    clear c1
    go_wp2_with fail
    go_roundg Y.size
    case measure => omega
    case rel => exact ⟨Y.extract 1 Y.size, by rw [HNZ.out]; omega, by rw [HNZ.out]; omega, rfl, HN.out, rfl⟩
   ·have g1 : ((Y[0].toNat : Int) == 9) = false := by rw [← HC.out]; simp; omega
    by_cases c2 : c.toNat = 32
    ·have g2 : ((Y[0].toNat : Int) == 32) = true := by rw [← HC.out]; simp; omega
     have HN := Lib.hid ((HST.out (by simp [c2])).trans HQ.out)
     clear c1 c2
     go_wp2_with fail
     go_roundg Y.size
     case measure => omega
     case rel => exact ⟨Y.extract 1 Y.size, by rw [HNZ.out]; omega, by rw [HNZ.out]; omega, rfl, HN.out, rfl⟩
    ·have g2 : ((Y[0].toNat : Int) == 32) = false := by rw [← HC.out]; simp; omega
     have hr : Y.data.toList = l := by rw [← HQ.out, HSY.out (by simp [c1, c2])]
     rw [hr] at hE
     have HE := Lib.hid hE
     clear hr c1 c2 hE
     go_wp2_with fail
     refine HE.out.mono ?_
     rintro e w1 ⟨rfl, rfl⟩
     go_wp2_with fail
     go_ret
     exact ⟨rfl, rfl⟩
  ·have g0 : decide (0 < Y.size) = false := decide_eq_false h0
   have hr : Y.data.toList = l := by rw [← HQ.out, dw_stay bt Y (fun h => absurd h h0)]
   rw [hr] at hE
   have HE := Lib.hid hE
   clear hr hE
   go_wp2_with fail
   refine HE.out.mono ?_
   rintro e w1 ⟨rfl, rfl⟩
   go_wp2_with fail
   go_ret
   exact ⟨rfl, rfl⟩
end Go.Proofs.YthieinfonomeeaaGreatDoor
namespace Go.Proofs.YthieinfonomeeaaGreatDoor
open Go.RowKit Doc Tit Inl Blk
set_option linter.unusedVariables false
attribute [local go_sem ↓] Go.wp_at_zero Go.wp_at_succ
theorem rev_at (s : ByteArray) (k : Nat) (h : k < s.size) : ∃ h' : k < s.data.toList.reverse.length, s.data.toList.reverse[k] = s[s.size - 1 - k]'(by omega) := by
 have hz : s.data.toList.length = s.size := by simp
 refine ⟨by rw [List.length_reverse]; omega, ?_⟩
 rw [List.getElem_reverse]
 obtain ⟨h1, e⟩ := byte_at s (s.size - 1 - k) (by omega)
 rw [e]
 congr 1
theorem bytes_tw_rev {p : UInt8 → Bool} (s : ByteArray) (i : Nat) (hi : i ≤ s.size) (h1 : ∀ j (h : j < s.size), j < i → p (s[s.size - 1 - j]'(by omega)) = true) (h2 : ∀ h : i < s.size, p (s[s.size - 1 - i]'(by omega)) = false) : (s.data.toList.reverse.takeWhile p).length = i := by
 have hz : s.data.toList.reverse.length = s.size := by simp
 refine tw_at _ i (by omega) (fun j h hj => ?_) (fun h => ?_)
 ·obtain ⟨_, e⟩ := rev_at s j (by omega)
  rw [e]; exact h1 j (by omega) hj
 ·obtain ⟨_, e⟩ := rev_at s i (by omega)
  rw [e]; exact h2 (by omega)
def p61 (c : UInt8) : Bool := decide (c = 61)
theorem p61_eq (c : UInt8) : p61 c = decide (c.toNat = 61) := by
 have a1 : c = 61 ↔ c.toNat = 61 := u8_eq (by decide)
 unfold p61
 rw [Bool.eq_iff_iff]; simp [a1]
theorem eqs_p61 (l : List UInt8) : eqs l = (l.takeWhile p61).length := rfl
set_option maxRecDepth 10000 in
set_option maxHeartbeats 2000000 in
theorem rheading_any (s : ByteArray) (w : World) (hs : s.size ≤ 100000000) : Calls Tryz.prog 71 #[.string s] w fun e w' => e = .returned (.tuple #[.int .i64 (((hd s.data.toList).map (·.1)).getD 0 : Nat), .string ⟨(((hd s.data.toList).map (·.2)).getD []).toArray⟩]) ∧ w = w' := by
 have hz : s.data.toList.length = s.size := by simp
 have h1 := rtrimEnd_any s w hs
 have hrl := rtrim_le bt s.data.toList
 have hhd : hd s.data.toList = hdT (rtrim bt s.data.toList) := rfl
 rw [hhd]
 obtain ⟨T, hT⟩ : ∃ T : ByteArray, T = ⟨(rtrim bt s.data.toList).toArray⟩ := ⟨_, rfl⟩
 have hTl : T.data.toList = rtrim bt s.data.toList := by rw [hT]
 rw [← hT] at h1
 rw [← hTl] at hrl ⊢
 have hTs : T.data.toList.length = T.size := by simp
 have hT8 : T.size ≤ 100000000 := by omega
 have hdt : hdT T.data.toList = if eqs T.data.toList = 0 ∨ eqs T.data.toList.reverse = 0 ∨ eqs T.data.toList = T.data.toList.length then none
  else if trimW bt ((T.data.toList.drop (min 6 (min (eqs T.data.toList) (eqs T.data.toList.reverse)))).take (T.data.toList.length - min 6 (min (eqs T.data.toList) (eqs T.data.toList.reverse)) - min 6 (min (eqs T.data.toList) (eqs T.data.toList.reverse)))) = [] then none
  else some (min 6 (min (eqs T.data.toList) (eqs T.data.toList.reverse)), trimW bt ((T.data.toList.drop (min 6 (min (eqs T.data.toList) (eqs T.data.toList.reverse)))).take (T.data.toList.length - min 6 (min (eqs T.data.toList) (eqs T.data.toList.reverse)) - min 6 (min (eqs T.data.toList) (eqs T.data.toList.reverse))))) := rfl
 have hroom := eqs_room (t := T.data.toList)
 have hta := fun i => bytes_tw (p := p61) T i
 have htb := fun i => bytes_tw_rev (p := p61) T i
 rw [← eqs_p61] at hta
 rw [← eqs_p61] at htb
 obtain ⟨a, ha⟩ : ∃ a, a = eqs T.data.toList := ⟨_, rfl⟩
 obtain ⟨b, hb⟩ : ∃ b, b = eqs T.data.toList.reverse := ⟨_, rfl⟩
 rw [← ha] at hta
 rw [← hb] at htb
 rw [hTs, ← ha, ← hb] at hdt hroom
 have H1 := Lib.hid h1
 have HDT := Lib.hid hdt
 have HROOM := Lib.hid hroom
 have HTA := Lib.hid hta
 have HTB := Lib.hid htb
 clear h1 hdt hroom hta htb ha hb hhd hT hTl hTs hrl hz
 go_enter Tryz.func71, Tryz.ntmps71
 go_wp2_with fail
 refine H1.out.mono ?_
 rintro e w1 ⟨rfl, rfl⟩
 go_wp2_with fail
 go_loopg [4] (T.size + 1) (fun g s4 wr => ∃ i : Nat, i ≤ T.size ∧ T.size < i + g ∧ s4 = .int .i64 i ∧ (∀ j (h : j < T.size), j < i → p61 T[j] = true) ∧ w = wr)
 case atStart => exact ⟨0, by omega, by omega, rfl, fun j h h2 => by omega, rfl⟩
 case round =>
  obtain ⟨i, hi1, hg, rfl, hj, rfl⟩ := hrel
  have HJ := Lib.hid hj
  clear hj
  obtain ⟨v, hv⟩ : ∃ v, v = (if h : i < T.size then p61 T[i] else false) := ⟨_, rfl⟩
  have HV := Lib.hid hv
  clear hv
  go_upto_region 3 with fail
  go_cut [19] from 10 to 19 (fun s19 wc => s19 = .bool v ∧ w = wc)
  case first =>
   by_cases hin : i < T.size
   ·have g1 : decide (i < T.size) = true := by simp; omega
    have hv := HV.out
    rw [dif_pos hin, p61_eq] at hv
    have hvv : ((T[i].toNat : Int) == 61) = v := by rw [hv, Bool.eq_iff_iff]; simp; omega
    clear hv
    go_wp2_with fail
    go_meet
    case rel => exact ⟨rfl, rfl⟩
   ·have g1 : decide (i < T.size) = false := by simp; omega
    have hbt : v = false := by rw [HV.out, dif_neg hin]
    subst hbt
    go_wp2_with fail
    go_meet
    case rel => exact ⟨rfl, rfl⟩
  case rest =>
   obtain ⟨rfl, rfl⟩ := hcut
   cases v with
   | true =>
     have hin : i < T.size := by
      have := HV.out
      by_cases h : i < T.size
      ·exact h
      ·rw [dif_neg h] at this; cases this
     have hk : p61 T[i] = true := by have := HV.out; rw [dif_pos hin] at this; exact this.symm
     have HK := Lib.hid hk
     clear hk
     go_wp2_with fail
     go_roundg (T.size - i)
     case measure => omega
     case rel => exact ⟨i + 1, by omega, by omega, by go_num, fun j h1 h2 => by
      by_cases e : j = i
      ·subst e; exact HK.out
      ·exact HJ.out j h1 (by omega), rfl⟩
   | false =>
     have hr : a = i := HTA.out i hi1 HJ.out (fun h => by have := HV.out; rw [dif_pos h] at this; exact this.symm)
     subst hr
     clear HJ HV HTA
     go_wp2_with fail
     go_loopg [5] (T.size + 1) (fun g s5 wr => ∃ i : Nat, i ≤ T.size ∧ T.size < i + g ∧ s5 = .int .i64 i ∧ (∀ j (h : j < T.size), j < i → p61 (T[T.size - 1 - j]'(by omega)) = true) ∧ w = wr)
     case atStart => exact ⟨0, by omega, by omega, rfl, fun j h h2 => by omega, rfl⟩
     case round =>
      obtain ⟨i, hi2, hg2, rfl, hj, rfl⟩ := hrel
      have HJ := Lib.hid hj
      clear hj
      obtain ⟨v, hv⟩ : ∃ v, v = (if h : i < T.size then p61 (T[T.size - 1 - i]'(by omega)) else false) := ⟨_, rfl⟩
      have HV := Lib.hid hv
      clear hv
      go_upto_region 5 with fail
      go_cut [35] from 22 to 35 (fun s35 wc => s35 = .bool v ∧ w = wc)
      case first =>
       by_cases hin : i < T.size
       ·have g1 : decide (i < T.size) = true := by simp; omega
        have hv := HV.out
        rw [dif_pos hin, p61_eq] at hv
        have hvv : (((T[T.size - 1 - i]'(by omega)).toNat : Int) == 61) = v := by rw [hv, Bool.eq_iff_iff]; simp; omega
        clear hv
        go_wp2_with fail
        go_meet
        case rel => exact ⟨rfl, rfl⟩
       ·have g1 : decide (i < T.size) = false := by simp; omega
        have hbt : v = false := by rw [HV.out, dif_neg hin]
        subst hbt
        go_wp2_with fail
        go_meet
        case rel => exact ⟨rfl, rfl⟩
      case rest =>
       obtain ⟨rfl, rfl⟩ := hcut
       cases v with
       | true =>
         have hin : i < T.size := by
          have := HV.out
          by_cases h : i < T.size
          ·exact h
          ·rw [dif_neg h] at this; cases this
         have hk : p61 (T[T.size - 1 - i]'(by omega)) = true := by have := HV.out; rw [dif_pos hin] at this; exact this.symm
         have HK := Lib.hid hk
         clear hk
         go_wp2_with fail
         go_roundg (T.size - i)
         case measure => omega
         case rel => exact ⟨i + 1, by omega, by omega, by go_num, fun j h1 h2 => by
          by_cases e : j = i
          ·subst e; exact HK.out
          ·exact HJ.out j h1 (by omega), rfl⟩
       | false =>
         have hr : b = i := HTB.out i hi2 HJ.out (fun h => by have := HV.out; rw [dif_pos h] at this; exact this.symm)
         subst hr
         clear HJ HV HTB
         by_cases hn : a = 0 ∨ b = 0 ∨ a = T.size
         ·have hnone : hdT T.data.toList = none := by rw [HDT.out, if_pos hn]
          have HNO := Lib.hid hnone
          clear hnone
          by_cases ha0 : a = 0
          ·have g1 : ((a : Int) == 0) = true := by simp; omega
           clear hn ha0
           go_wp2_with fail
           exact bodyPost_ret (v := .tuple #[.int .i64 0, .string ⟨#[]⟩]) (by simp [results, Tryz.results71, go_sem]) rfl ⟨by rw [HNO.out]; rfl, rfl⟩
          ·have g1 : ((a : Int) == 0) = false := by simp; omega
           by_cases hb0 : b = 0
           ·have g2 : ((b : Int) == 0) = true := by simp; omega
            clear hn ha0 hb0
            go_wp2_with fail
            exact bodyPost_ret (v := .tuple #[.int .i64 0, .string ⟨#[]⟩]) (by simp [results, Tryz.results71, go_sem]) rfl ⟨by rw [HNO.out]; rfl, rfl⟩
           ·have g2 : ((b : Int) == 0) = false := by simp; omega
            have g3 : ((a : Int) == (T.size : Int)) = true := by simp; omega
            clear hn ha0 hb0
            go_wp2_with fail
            exact bodyPost_ret (v := .tuple #[.int .i64 0, .string ⟨#[]⟩]) (by simp [results, Tryz.results71, go_sem]) rfl ⟨by rw [HNO.out]; rfl, rfl⟩
         ·have g1 : ((a : Int) == 0) = false := by simp; omega
          have g2 : ((b : Int) == 0) = false := by simp; omega
          have g3 : ((a : Int) == (T.size : Int)) = false := by simp; omega
          have hroom := HROOM.out (by omega)
          obtain ⟨n, hnn⟩ : ∃ n, n = min 6 (min a b) := ⟨_, rfl⟩
          have hn6 : n ≤ 6 ∧ n ≤ a ∧ n ≤ b := by omega
          go_upto_region 9 with fail
          go_cut [6] from 50 to 52 (fun s6 wc => s6 = .int .i64 (n : Nat) ∧ w = wc)
          case first =>
           clear hn
           go_wp2_with fail
           all_goals
            go_meet
            case rel => exact ⟨by congr 1; omega, rfl⟩
          case rest =>
           obtain ⟨rfl, rfl⟩ := hcut
           have hn2 : n + n ≤ T.size := by omega
           have hX : (T.extract n (T.size - n)).data.toList = (T.data.toList.drop n).take (T.size - n - n) := by
            rw [ByteArray.data_extract, Array.toList_extract]
           have h4 := rtrim5_any (T.extract n (T.size - n)) w (by rw [ByteArray.size_extract]; omega)
           rw [hX] at h4
           have hdt := HDT.out
           rw [if_neg hn, ← hnn] at hdt
           obtain ⟨M, hM⟩ : ∃ M, trimW bt ((T.data.toList.drop n).take (T.size - n - n)) = M := ⟨_, rfl⟩
           rw [hM] at h4 hdt
           have he := mk_isEmpty M
           obtain ⟨N, hN⟩ : ∃ N : ByteArray, ⟨M.toArray⟩ = N := ⟨_, rfl⟩
           rw [hN] at h4 he
           have H4 := Lib.hid h4
           have HNN := Lib.hid hN
           clear h4 hX hM hnn hn hN
           by_cases hm : M = []
           ·rw [if_pos hm] at hdt
            rw [hm] at he
            replace he : N.toList.isEmpty = true := he
            have HD := Lib.hid hdt
            clear hdt hm HDT
            go_wp2_with fail
            refine H4.out.mono ?_
            rintro e w4 ⟨rfl, rfl⟩
            go_wp2_with fail
            exact bodyPost_ret (v := .tuple #[.int .i64 0, .string ⟨#[]⟩]) (by simp [results, Tryz.results71, go_sem]) rfl ⟨by rw [HD.out]; rfl, rfl⟩
           ·rw [if_neg hm] at hdt
            replace he : N.toList.isEmpty = false := by
             rw [he]
             cases M with
             | nil => exact absurd rfl hm
             | cons _ _ => rfl
            have HD := Lib.hid hdt
            clear hdt HDT
            go_wp2_with fail
            refine H4.out.mono ?_
            rintro e w4 ⟨rfl, rfl⟩
            go_wp2_with fail
            exact bodyPost_ret (v := .tuple #[.int .i64 (n : Nat), .string N]) (by simp [results, Tryz.results71, go_sem]) rfl ⟨by rw [HD.out, ← HNN.out]; rfl, rfl⟩
end Go.Proofs.YthieinfonomeeaaGreatDoor
namespace Go.Proofs.YthieinfonomeeaaGreatDoor
open Go.RowKit Doc Tit Inl Blk
set_option linter.unusedVariables false
attribute [local go_sem ↓] Go.wp_at_zero Go.wp_at_succ
set_option maxRecDepth 10000 in
theorem rempty_any (s : ByteArray) (w : World) (hs : s.size ≤ 100000000) : Calls Tryz.prog 72 #[.string s] w fun e w' => e = .returned (.bool (emptyL s.data.toList)) ∧ w = w' := by
 have h := rtrim_any s w hs
 have he := mk_isEmpty (trimW ws4 s.data.toList)
 rw [trimW_empty] at he
 have hv : emptyL s.data.toList = s.data.toList.all ws4 := rfl
 rw [hv]
 obtain ⟨T, hT⟩ : ∃ T : ByteArray, ⟨(trimW ws4 s.data.toList).toArray⟩ = T := ⟨_, rfl⟩
 rw [hT] at h he
 obtain ⟨b, hb⟩ : ∃ b, s.data.toList.all ws4 = b := ⟨_, rfl⟩
 rw [hb] at he ⊢
 have H := Lib.hid h
 clear h hT hb hv
 go_enter Tryz.func72, Tryz.ntmps72
 go_wp2_with fail
 refine H.out.mono ?_
 rintro e w1 ⟨rfl, rfl⟩
 cases b with
 | true =>
   go_wp2_with fail
   go_ret
   exact ⟨rfl, rfl⟩
 | false =>
   go_wp2_with fail
   go_ret
   exact ⟨rfl, rfl⟩
set_option maxRecDepth 10000 in
theorem rlisted_any (s : ByteArray) (w : World) : Calls Tryz.prog 36 #[.string s] w fun e w' => e = .returned (.bool (listL s.data.toList)) ∧ w = w' := by
 cases hl : s.data.toList with
 | nil =>
   have hz : s.data.toList.length = s.size := by simp
   have g1 : decide (0 < s.size) = false := decide_eq_false (by rw [hl] at hz; simp at hz; omega)
   have hv : listL [] = false := rfl
   rw [hv]
   clear hl hv hz
   go_enter Tryz.func36, Tryz.ntmps36
   go_wp2_with fail
   go_ret
   exact ⟨rfl, rfl⟩
 | cons c r =>
   obtain ⟨h0, hx⟩ := first_byte hl
   have g1 : decide (0 < s.size) = true := decide_eq_true h0
   have hv : listL (c :: r) = ((c == 42) || (c == 35)) := rfl
   have e1 : ((c.toNat : Int) == 42) = (c == 42) := u8_num c 42 (by decide)
   have e2 : ((c.toNat : Int) == 35) = (c == 35) := u8_num c 35 (by decide)
   obtain ⟨b1, h1⟩ : ∃ b, (c == 42) = b := ⟨_, rfl⟩
   obtain ⟨b2, h2⟩ : ∃ b, (c == 35) = b := ⟨_, rfl⟩
   rw [hv, h1, h2]
   rw [h1] at e1
   rw [h2] at e2
   clear hl hv h1 h2
   cases b1 with
   | true =>
     clear e2
     go_enter Tryz.func36, Tryz.ntmps36
     go_wp2_with fail
     go_ret
     exact ⟨rfl, rfl⟩
   | false =>
     cases b2 with
     | true =>
       go_enter Tryz.func36, Tryz.ntmps36
       go_wp2_with fail
       go_ret
       exact ⟨rfl, rfl⟩
     | false =>
       go_enter Tryz.func36, Tryz.ntmps36
       go_wp2_with fail
       go_ret
       exact ⟨rfl, rfl⟩
theorem dw_drop {p : UInt8 → Bool} : ∀ l : List UInt8, l.dropWhile p = l.drop (l.takeWhile p).length
 | [] => rfl
 | a :: l => by
   rw [List.dropWhile_cons, List.takeWhile_cons]
   cases h : p a with
   | true => simp only [if_true, List.length_cons, List.drop_succ_cons]; exact dw_drop l
   | false => rfl
def p45 (c : UInt8) : Bool := decide (c = 45)
theorem p45_eq (c : UInt8) : p45 c = ((c.toNat : Int) == 45) := by
 have a1 : c = 45 ↔ c.toNat = 45 := u8_eq (by decide)
 unfold p45
 rw [Bool.eq_iff_iff]; simp [a1]; omega
theorem w3_eq (c : UInt8) : w3 c = (((c.toNat : Int) == 9) || ((c.toNat : Int) == 13) || ((c.toNat : Int) == 32)) := by
 rw [show ((c.toNat : Int) == 9) = (c == 9) from u8_num c 9 (by decide), show ((c.toNat : Int) == 13) = (c == 13) from u8_num c 13 (by decide), show ((c.toNat : Int) == 32) = (c == 32) from u8_num c 32 (by decide)]
 rfl
theorem all_from (p : UInt8 → Bool) (s : ByteArray) (n : Nat) (h : ∀ j (h : j < s.size), n ≤ j → p s[j] = true) : (s.data.toList.drop n).all p = true := by
 refine List.all_eq_true.2 fun x hx => ?_
 obtain ⟨k, hk, e⟩ := List.getElem_of_mem hx
 rw [List.length_drop] at hk
 have hz : s.data.toList.length = s.size := by simp
 rw [List.getElem_drop] at e
 obtain ⟨_, e2⟩ := byte_at s (n + k) (by omega)
 rw [← e, ← e2]
 exact h (n + k) (by omega) (by omega)
theorem not_from (p : UInt8 → Bool) (s : ByteArray) (n j : Nat) (hj : j < s.size) (hn : n ≤ j) (h : p s[j] = false) : (s.data.toList.drop n).all p = false := by
 cases hc : (s.data.toList.drop n).all p with
 | false => rfl
 | true =>
   exfalso
   have hz : s.data.toList.length = s.size := by simp
   obtain ⟨_, e2⟩ := byte_at s j hj
   have hm : s[j] ∈ s.data.toList.drop n := by
    rw [e2]
    have : s.data.toList[j] = (s.data.toList.drop n)[j - n]'(by rw [List.length_drop]; omega) := by
     rw [List.getElem_drop]; congr 1; omega
    rw [this]
    exact List.getElem_mem _
   rw [List.all_eq_true.1 hc _ hm] at h
   cases h
set_option maxRecDepth 10000 in
set_option maxHeartbeats 2000000 in
theorem rruler_any (s : ByteArray) (w : World) (hs : s.size ≤ 100000000) : Calls Tryz.prog 74 #[.string s] w fun e w' => e = .returned (.bool (ruleL s.data.toList)) ∧ w = w' := by
 have hta := fun i => bytes_tw (p := p45) s i
 have hru : ruleL s.data.toList = (decide (4 ≤ (s.data.toList.takeWhile p45).length) && (s.data.toList.drop (s.data.toList.takeWhile p45).length).all w3) := by
  rw [← dw_drop]; rfl
 have hal := all_from w3 s
 have hno := not_from w3 s
 rw [hru]
 obtain ⟨a, ha⟩ : ∃ a, a = (s.data.toList.takeWhile p45).length := ⟨_, rfl⟩
 rw [← ha] at hta ⊢
 have HTA := Lib.hid hta
 have HAL := Lib.hid hal
 have HNO := Lib.hid hno
 clear hta hal hno ha hru
 go_enter Tryz.func74, Tryz.ntmps74
 go_wp2_with fail
 go_loopg [3] (s.size + 1) (fun g s3 wr => ∃ i : Nat, i ≤ s.size ∧ s.size < i + g ∧ s3 = .int .i64 i ∧ (∀ j (h : j < s.size), j < i → p45 s[j] = true) ∧ w = wr)
 case atStart => exact ⟨0, by omega, by omega, rfl, fun j h h2 => by omega, rfl⟩
 case round =>
  obtain ⟨i, hi1, hg, rfl, hj, rfl⟩ := hrel
  have HJ := Lib.hid hj
  clear hj
  obtain ⟨v, hv⟩ : ∃ v, v = (if h : i < s.size then p45 s[i] else false) := ⟨_, rfl⟩
  have HV := Lib.hid hv
  clear hv
  go_upto_region 2 with fail
  go_cut [14] from 5 to 14 (fun s14 wc => s14 = .bool v ∧ w = wc)
  case first =>
   by_cases hin : i < s.size
   ·have g1 : decide (i < s.size) = true := by simp; omega
    have hv := HV.out
    rw [dif_pos hin, p45_eq] at hv
    have hvv : ((s[i].toNat : Int) == 45) = v := hv.symm
    clear hv
    go_wp2_with fail
    go_meet
    case rel => exact ⟨rfl, rfl⟩
   ·have g1 : decide (i < s.size) = false := by simp; omega
    have hbt : v = false := by rw [HV.out, dif_neg hin]
    subst hbt
    go_wp2_with fail
    go_meet
    case rel => exact ⟨rfl, rfl⟩
  case rest =>
   obtain ⟨rfl, rfl⟩ := hcut
   cases v with
   | true =>
     have hin : i < s.size := by
      have := HV.out
      by_cases h : i < s.size
      ·exact h
      ·rw [dif_neg h] at this; cases this
     have hk : p45 s[i] = true := by have := HV.out; rw [dif_pos hin] at this; exact this.symm
     have HK := Lib.hid hk
     clear hk
     go_wp2_with fail
     go_roundg (s.size - i)
     case measure => omega
     case rel => exact ⟨i + 1, by omega, by omega, by go_num, fun j h1 h2 => by
      by_cases e : j = i
      ·subst e; exact HK.out
      ·exact HJ.out j h1 (by omega), rfl⟩
   | false =>
     have hr : a = i := HTA.out i hi1 HJ.out (fun h => by have := HV.out; rw [dif_pos h] at this; exact this.symm)
     subst hr
     clear HJ HV HTA
     go_wp2_with fail
     go_loopg [4] (s.size + 1) (fun g s4 wr => ∃ i : Nat, a ≤ i ∧ i ≤ s.size ∧ s.size < i + g ∧ s4 = .int .i64 i ∧ (∀ j (h : j < s.size), a ≤ j → j < i → w3 s[j] = true) ∧ w = wr)
     case atStart => exact ⟨a, by omega, by omega, by omega, rfl, fun j h h2 h3 => by omega, rfl⟩
     case round =>
      obtain ⟨i, hai, hi2, hg2, rfl, hj, rfl⟩ := hrel
      have HJ := Lib.hid hj
      clear hj
      by_cases hin : i < s.size
      ·have g1 : decide (i < s.size) = true := by simp; omega
       have hx8 := w3_eq s[i]
       have hno := HNO.out a i hin hai
       obtain ⟨v, hv⟩ : ∃ v, v = w3 s[i] := ⟨_, rfl⟩
       rw [← hv] at hx8 hno
       have HV := Lib.hid hv
       have HNN := Lib.hid hno
       clear hv hno
       go_upto_region 7 with fail
       go_cut [39] from 24 to 39 (fun s39 wc => s39 = .bool (!v) ∧ w = wc)
       case first =>
        obtain ⟨x, hx⟩ : ∃ x, x = s[i].toNat := ⟨_, rfl⟩
        rw [← hx] at hx8
        have HX8 := Lib.hid hx8
        clear hx8
        by_cases c1 : x = 9
        ·have g2 : ((s[i].toNat : Int) != 9) = false := by rw [← hx, c1]; rfl
         have hvt : v = true := by rw [HX8.out, c1]; rfl
         subst hvt
         clear c1 hx
         go_wp2_with fail
         go_meet
         case rel => exact ⟨rfl, rfl⟩
        ·have g2 : ((s[i].toNat : Int) != 9) = true := by rw [← hx]; simp; omega
         by_cases c2 : x = 13
         ·have g3 : ((s[i].toNat : Int) != 13) = false := by rw [← hx, c2]; rfl
          have hvt : v = true := by rw [HX8.out, c2]; rfl
          subst hvt
          clear c1 c2 hx
          go_wp2_with fail
          go_meet
          case rel => exact ⟨rfl, rfl⟩
         ·have g3 : ((s[i].toNat : Int) != 13) = true := by rw [← hx]; simp; omega
          by_cases c3 : x = 32
          ·have g4 : ((s[i].toNat : Int) != 32) = false := by rw [← hx, c3]; rfl
           have hvt : v = true := by rw [HX8.out, c3]; rfl
           subst hvt
           clear c1 c2 c3 hx
           go_wp2_with fail
           go_meet
           case rel => exact ⟨rfl, rfl⟩
          ·have g4 : ((s[i].toNat : Int) != 32) = true := by rw [← hx]; simp; omega
           have hvt : v = false := by
            rw [HX8.out]
            have q1 : ((x : Int) == 9) = false := by simp; omega
            have q2 : ((x : Int) == 13) = false := by simp; omega
            have q3 : ((x : Int) == 32) = false := by simp; omega
            rw [q1, q2, q3]; rfl
           subst hvt
           clear c1 c2 c3 hx
           go_wp2_with fail
           go_meet
           case rel => exact ⟨rfl, rfl⟩
       case rest =>
        obtain ⟨rfl, rfl⟩ := hcut
        clear hx8
        cases v with
        | true =>
          have HK := Lib.hid HV.out.symm
          go_wp2_with fail
          go_roundg (s.size - i)
          case measure => omega
          case rel => exact ⟨i + 1, by omega, by omega, by omega, by go_num, fun j h1 h2 h3 => by
           by_cases e : j = i
           ·subst e; exact HK.out
           ·exact HJ.out j h1 h2 (by omega), rfl⟩
        | false =>
          have HF := Lib.hid (HNN.out rfl)
          go_wp2_with fail
          go_ret
          exact ⟨by rw [HF.out, Bool.and_false]; first | done | rfl, rfl⟩
      ·have g1 : decide (i < s.size) = false := by simp; omega
       have HF := Lib.hid (HAL.out a (fun j h1 h2 => HJ.out j h1 h2 (by omega)))
       have HI : Hid (decide (4 ≤ (a : Int)) = decide (4 ≤ a)) := Lib.hid (by rw [Bool.eq_iff_iff]; simp; omega)
       clear hin
       go_wp2_with fail
       go_ret
       exact ⟨by rw [HF.out, Bool.and_true]; first | rfl | (rw [← HI.out]; rfl) | (rw [← HI.out]), rfl⟩
set_option maxRecDepth 10000 in
set_option maxHeartbeats 2000000 in
theorem rfirst_any (s : ByteArray) (w : World) (hs : s.size ≤ 100000000) : Calls Tryz.prog 35 #[.string s] w fun e w' => e = .returned (.int .i64 (kindL s.data.toList + 1 : Nat)) ∧ w = w' := by
 have hE := fun W => rempty_any s W hs
 have hP : ∀ W, Calls Tryz.prog 73 #[.string s, .int .i64 0, .string ⟨#[123, 124]⟩] W fun e w' => e = .returned (.bool (Lib.hasPrefix s.data.toList [123, 124])) ∧ W = w' := fun W => at_any s ⟨#[123, 124]⟩ 0 W (by omega) (by decide) (Nat.zero_le _)
 have hH := rheading_any s w hs
 have hR := fun W => rruler_any s W hs
 have hL := fun W => rlisted_any s W
 have hk : kindL s.data.toList = if emptyL s.data.toList then 0 else if Lib.hasPrefix s.data.toList [123, 124] then 1 else if (hd s.data.toList).isSome then 2 else if ruleL s.data.toList then 3 else if listL s.data.toList then 4 else if codeL s.data.toList then 5 else 6 := rfl
 have hn : ∃ n : Nat, ((hd s.data.toList).map (·.1)).getD 0 = n ∧ ((hd s.data.toList).isSome = true → 0 < n) ∧ ((hd s.data.toList).isSome = false → n = 0) := by
  cases hh : hd s.data.toList with
  | none => exact ⟨0, rfl, (fun h => by cases h), fun _ => rfl⟩
  | some y =>
    obtain ⟨n, T⟩ := y
    exact ⟨n, rfl, fun _ => (eqs_min hh).1, fun h => by cases h⟩
 obtain ⟨n, hn1, hn2, hn3⟩ := hn
 rw [hn1] at hH
 generalize (⟨(((hd s.data.toList).map (·.2)).getD []).toArray⟩ : ByteArray) = T at hH
 have HE := Lib.hid hE
 have HP := Lib.hid hP
 have HH := Lib.hid hH
 have HR := Lib.hid hR
 have HLL := Lib.hid hL
 clear hE hP hH hR hL hn1
 cases h1 : emptyL s.data.toList with
 | true =>
   rw [h1] at HE hk
   rw [hk, if_pos rfl]
   clear hk h1 hn2 hn3
   go_enter Tryz.func35, Tryz.ntmps35
   go_wp2_with fail
   refine HH.out.mono ?_
   rintro e w1 ⟨rfl, rfl⟩
   go_wp2_with fail
   refine (HE.out _).mono ?_
   rintro e w1 ⟨rfl, rfl⟩
   go_wp2_with fail
   go_ret
   exact ⟨rfl, rfl⟩
 | false =>
 rw [h1] at HE hk
 rw [if_neg (by decide)] at hk
 cases h2 : Lib.hasPrefix s.data.toList [123, 124] with
 | true =>
   rw [h2] at HP hk
   rw [hk, if_pos rfl]
   clear hk h1 h2 hn2 hn3
   go_enter Tryz.func35, Tryz.ntmps35
   go_wp2_with fail
   refine HH.out.mono ?_
   rintro e w1 ⟨rfl, rfl⟩
   go_wp2_with fail
   refine (HE.out _).mono ?_
   rintro e w1 ⟨rfl, rfl⟩
   go_wp2_with fail
   refine (HP.out _).mono ?_
   rintro e w1 ⟨rfl, rfl⟩
   go_wp2_with fail
   go_ret
   exact ⟨rfl, rfl⟩
 | false =>
 rw [h2] at HP hk
 rw [if_neg (by decide)] at hk
 cases h3 : (hd s.data.toList).isSome with
 | true =>
   rw [h3] at hk
   rw [hk, if_pos rfl]
   have g3 : decide (0 < n) = true := decide_eq_true (hn2 h3)
   clear hk h1 h2 h3 hn2 hn3
   go_enter Tryz.func35, Tryz.ntmps35
   go_wp2_with fail
   refine HH.out.mono ?_
   rintro e w1 ⟨rfl, rfl⟩
   go_wp2_with fail
   refine (HE.out _).mono ?_
   rintro e w1 ⟨rfl, rfl⟩
   go_wp2_with fail
   refine (HP.out _).mono ?_
   rintro e w1 ⟨rfl, rfl⟩
   go_wp2_with fail
   go_ret
   exact ⟨rfl, rfl⟩
 | false =>
 rw [h3] at hk
 rw [if_neg (by decide)] at hk
 have hn0 := hn3 h3
 subst hn0
 cases h4 : ruleL s.data.toList with
 | true =>
   rw [h4] at HR hk
   rw [hk, if_pos rfl]
   clear hk h1 h2 h3 h4 hn2 hn3
   go_enter Tryz.func35, Tryz.ntmps35
   go_wp2_with fail
   refine HH.out.mono ?_
   rintro e w1 ⟨rfl, rfl⟩
   go_wp2_with fail
   refine (HE.out _).mono ?_
   rintro e w1 ⟨rfl, rfl⟩
   go_wp2_with fail
   refine (HP.out _).mono ?_
   rintro e w1 ⟨rfl, rfl⟩
   go_wp2_with fail
   refine (HR.out _).mono ?_
   rintro e w1 ⟨rfl, rfl⟩
   go_wp2_with fail
   go_ret
   exact ⟨rfl, rfl⟩
 | false =>
 rw [h4] at HR hk
 rw [if_neg (by decide)] at hk
 cases h5 : listL s.data.toList with
 | true =>
   rw [h5] at HLL hk
   rw [hk, if_pos rfl]
   clear hk h1 h2 h3 h4 h5 hn2 hn3
   go_enter Tryz.func35, Tryz.ntmps35
   go_wp2_with fail
   refine HH.out.mono ?_
   rintro e w1 ⟨rfl, rfl⟩
   go_wp2_with fail
   refine (HE.out _).mono ?_
   rintro e w1 ⟨rfl, rfl⟩
   go_wp2_with fail
   refine (HP.out _).mono ?_
   rintro e w1 ⟨rfl, rfl⟩
   go_wp2_with fail
   refine (HR.out _).mono ?_
   rintro e w1 ⟨rfl, rfl⟩
   go_wp2_with fail
   refine (HLL.out _).mono ?_
   rintro e w1 ⟨rfl, rfl⟩
   go_wp2_with fail
   go_ret
   exact ⟨rfl, rfl⟩
 | false =>
 rw [h5] at HLL hk
 rw [if_neg (by decide)] at hk
 cases hl : s.data.toList with
 | nil => rw [hl] at h1; cases h1
 | cons c r =>
   obtain ⟨h0, hx⟩ := first_byte hl
   have hv2 : codeL (c :: r) = (c == 32) := rfl
   rw [hl, hv2] at hk
   rw [hk]
   have e3 : ((c.toNat : Int) == 32) = (c == 32) := u8_num c 32 (by decide)
   obtain ⟨b3, g3⟩ : ∃ b, (c == 32) = b := ⟨_, rfl⟩
   rw [g3]
   rw [g3] at e3
   clear hk h1 h2 h3 h4 h5 hl hv2 g3 hn2 hn3
   go_enter Tryz.func35, Tryz.ntmps35
   go_wp2_with fail
   refine HH.out.mono ?_
   rintro e w1 ⟨rfl, rfl⟩
   go_wp2_with fail
   refine (HE.out _).mono ?_
   rintro e w1 ⟨rfl, rfl⟩
   go_wp2_with fail
   refine (HP.out _).mono ?_
   rintro e w1 ⟨rfl, rfl⟩
   go_wp2_with fail
   refine (HR.out _).mono ?_
   rintro e w1 ⟨rfl, rfl⟩
   go_wp2_with fail
   refine (HLL.out _).mono ?_
   rintro e w1 ⟨rfl, rfl⟩
   cases b3 with
   | true =>
     go_wp2_with fail
     go_ret
     exact ⟨rfl, rfl⟩
   | false =>
     go_wp2_with fail
     go_ret
     exact ⟨rfl, rfl⟩
end Go.Proofs.YthieinfonomeeaaGreatDoor
namespace Go.Proofs.YthieinfonomeeaaGreatDoor
open Go.RowKit Doc Tit Inl Blk
set_option linter.unusedVariables false
attribute [local go_sem ↓] Go.wp_at_zero Go.wp_at_succ
theorem star_eq (c : UInt8) : star c = (((c.toNat : Int) == 42) || ((c.toNat : Int) == 35)) := by
 rw [show ((c.toNat : Int) == 42) = (c == 42) from u8_num c 42 (by decide), show ((c.toNat : Int) == 35) = (c == 35) from u8_num c 35 (by decide)]
 rfl
set_option maxRecDepth 10000 in
set_option maxHeartbeats 1000000 in
theorem rprefix_any (s : ByteArray) (w : World) (hs : s.size ≤ 100000000) : Calls Tryz.prog 106 #[.string s] w fun e w' => e = .returned (.int .i64 ((s.data.toList.takeWhile star).length : Nat)) ∧ w = w' := by
 have hta := fun i => bytes_tw (p := star) s i
 obtain ⟨a, ha⟩ : ∃ a, a = (s.data.toList.takeWhile star).length := ⟨_, rfl⟩
 rw [← ha] at hta ⊢
 have HTA := Lib.hid hta
 clear hta ha
 go_enter Tryz.func106, Tryz.ntmps106
 go_wp2_with fail
 go_loopg [3] (s.size + 1) (fun g s3 wr => ∃ i : Nat, i ≤ s.size ∧ s.size < i + g ∧ s3 = .int .i64 i ∧ (∀ j (h : j < s.size), j < i → star s[j] = true) ∧ w = wr)
 case atStart => exact ⟨0, by omega, by omega, rfl, fun j h h2 => by omega, rfl⟩
 case round =>
  obtain ⟨i, hi1, hg, rfl, hj, rfl⟩ := hrel
  have HJ := Lib.hid hj
  clear hj
  obtain ⟨v, hv⟩ : ∃ v, v = (if h : i < s.size then star s[i] else false) := ⟨_, rfl⟩
  have HV := Lib.hid hv
  clear hv
  go_upto_region 2 with fail
  go_cut [19] from 4 to 19 (fun s19 wc => s19 = .bool v ∧ w = wc)
  case first =>
   by_cases hin : i < s.size
   ·have g1 : decide (i < s.size) = true := by simp; omega
    have hv := HV.out
    rw [dif_pos hin, star_eq] at hv
    obtain ⟨b1, h1⟩ : ∃ b, ((s[i].toNat : Int) == 42) = b := ⟨_, rfl⟩
    obtain ⟨b2, h2⟩ : ∃ b, ((s[i].toNat : Int) == 35) = b := ⟨_, rfl⟩
    rw [h1, h2] at hv
    subst hv
    clear HV
    cases b1 with
    | true =>
      clear h2
      go_wp2_with fail
      go_meet
      case rel => exact ⟨rfl, rfl⟩
    | false =>
      go_wp2_with fail
      go_meet
      case rel => exact ⟨rfl, rfl⟩
   ·have g1 : decide (i < s.size) = false := by simp; omega
    have hbt : v = false := by rw [HV.out, dif_neg hin]
    subst hbt
    go_wp2_with fail
    go_meet
    case rel => exact ⟨rfl, rfl⟩
  case rest =>
   obtain ⟨rfl, rfl⟩ := hcut
   cases v with
   | true =>
     have hin : i < s.size := by
      have := HV.out
      by_cases h : i < s.size
      ·exact h
      ·rw [dif_neg h] at this; cases this
     have hk : star s[i] = true := by have := HV.out; rw [dif_pos hin] at this; exact this.symm
     have HK := Lib.hid hk
     clear hk
     go_wp2_with fail
     go_roundg (s.size - i)
     case measure => omega
     case rel => exact ⟨i + 1, by omega, by omega, by go_num, fun j h1 h2 => by
      by_cases e : j = i
      ·subst e; exact HK.out
      ·exact HJ.out j h1 (by omega), rfl⟩
   | false =>
     have hr : a = i := HTA.out i hi1 HJ.out (fun h => by have := HV.out; rw [dif_pos h] at this; exact this.symm)
     have HR := Lib.hid hr
     clear hr
     go_wp2_with fail
     go_ret
     exact ⟨by rw [HR.out]; rfl, rfl⟩
set_option maxRecDepth 10000 in
set_option maxHeartbeats 1000000 in
theorem rjoin_any (l : List ByteArray) (p : Option Addr) (c : Nat) (w : World) (ht : Blk.tot (bl l) ≤ 100000000) (hv : SL w p c l) :
  Calls Tryz.prog 79 #[.slice p l.length c] w fun e w' => e = .returned (.string ⟨(joinL (bl l)).toArray⟩) ∧ w = w' := by
 have hnc := hv.1
 have hcm := hv.2.1
 have hlen := Blk.len_tot (bl l)
 rw [bl_length] at hlen
 have hin : ∀ j, j < l.length → ∃ s : ByteArray, l[j]? = some s ∧ s.size + 1 ≤ Blk.tot (bl l) ∧ ∃ b o, p = some ⟨b, o, none⟩ ∧ b < w.heap.size ∧ w.cell? ⟨b, o + j, none⟩ = some (.string s) := by
  intro j hj
  obtain ⟨s, hs⟩ : ∃ s, l[j]? = some s := ⟨_, List.getElem?_eq_getElem hj⟩
  rcases hv.2.2 with h | ⟨b, o, h2, h3, h4⟩
  ·rw [h] at hj; cases hj
  ·exact ⟨s, hs, bl_tot (Nat.le_refl _) s (List.mem_of_getElem? hs), b, o, h2, h3, h4 j s hs⟩
 obtain ⟨n, hn⟩ : ∃ n, n = l.length := ⟨_, rfl⟩
 have hll : ∀ j, j ≤ n → (bl (l.take j)).length = j := fun j hj => by rw [bl_length, List.length_take]; omega
 have htl : ∀ j, (joinL (bl (l.take j))).length ≤ Blk.tot (bl l) := fun j => by
  have h1 := joinL_len (bl (l.take j))
  have h2 := Blk.tot_take j (bl l)
  rw [← bl_take] at h2
  omega
 have hall : joinL (bl (l.take n)) = joinL (bl l) := by rw [List.take_of_length_le (by omega)]
 rw [← hn] at hlen hnc hin ⊢
 have HIN := Lib.hid hin
 have HLL := Lib.hid hll
 have HTL := Lib.hid htl
 have HALL := Lib.hid hall
 clear hin hll htl hall hn hv
 go_enter Tryz.func79, Tryz.ntmps79
 go_wp2_with fail
 go_loopg [3, 4] (n + 1) (fun g s3 s4 wr => ∃ (j : Nat) (T : ByteArray), j ≤ n ∧ n < j + g ∧ s4 = .int .i64 j ∧ s3 = .string T ∧ T.data.toList = joinL (bl (l.take j)) ∧ w = wr)
 case atStart => exact ⟨0, ⟨#[]⟩, by omega, by omega, rfl, rfl, rfl, rfl⟩
 case round =>
  obtain ⟨j, T, hj, hg, rfl, rfl, hT, rfl⟩ := hrel
  have hTz : T.size ≤ 100000000 := by
   have h1 := HTL.out j
   rw [← hT] at h1
   have h3 : T.data.toList.length = T.size := by simp
   omega
  have HT := Lib.hid hT
  clear hT
  by_cases hjn : j < n
  ·obtain ⟨x, hx, hxz, b, o, rfl, hbl, hc⟩ := HIN.out j hjn
   have hxz : x.size ≤ 100000000 := by omega
   have g2 : decide (j < n) = true := decide_eq_true hjn
   have htk : bl (l.take (j + 1)) = bl (l.take j) ++ [x.data.toList] := by
    rw [List.take_add_one, hx]; simp [bl]
   have hjo : joinL (bl (l.take (j + 1))) = if bl (l.take j) = [] then x.data.toList else T.data.toList ++ 10 :: x.data.toList := by
    rw [htk, join_snoc, HT.out]
   have hl := HLL.out j (by omega)
   have HJO := Lib.hid hjo
   clear htk hjo hx
   have hov1 : ¬ (9223372036854775807 < T.size + (⟨#[10]⟩ : ByteArray).size) := by show ¬ (9223372036854775807 < T.size + 1); omega
   have hov2 : ¬ (9223372036854775807 < (T ++ (⟨#[10]⟩ : ByteArray)).size + x.size) := by rw [ByteArray.size_append]; show ¬ (9223372036854775807 < T.size + 1 + x.size); omega
   have hov3 : ¬ (9223372036854775807 < T.size + x.size) := by omega
   by_cases hj0 : j = 0
   ·have g3 : decide (0 < j) = false := decide_eq_false (by omega)
    have hT2 : (T ++ x).data.toList = joinL (bl (l.take (j + 1))) := by
     have hT0 : T.data.toList = [] := by rw [HT.out, hj0]; rfl
     rw [HJO.out, if_pos (List.length_eq_zero_iff.1 (by omega)), app_data, hT0]
     rfl
    have HT2 := Lib.hid hT2
    clear hT2 hj0 hl
    go_wp2_with fail
    go_roundg (n - j)
    case measure => omega
    case rel => exact ⟨j + 1, _, by omega, by omega, by go_num, rfl, HT2.out, rfl⟩
   ·have g3 : decide (0 < j) = true := decide_eq_true (by omega)
    have hT2 : (T ++ (⟨#[10]⟩ : ByteArray) ++ x).data.toList = joinL (bl (l.take (j + 1))) := by
     have hne : bl (l.take j) ≠ [] := fun e => by rw [e] at hl; rw [List.length_nil] at hl; omega
     rw [HJO.out, if_neg hne, app_data, app_data]
     simp
    have HT2 := Lib.hid hT2
    clear hT2 hj0 hl
    go_wp2_with fail
    go_roundg (n - j)
    case measure => omega
    case rel => exact ⟨j + 1, _, by omega, by omega, by go_num, rfl, HT2.out, rfl⟩
  ·have hje : j = n := by omega
   subst hje
   have g2 : decide (j < j) = false := by simp
   have hr : T = ⟨(joinL (bl l)).toArray⟩ := bytes_ext (by rw [data_mk, HT.out, HALL.out])
   have HR := Lib.hid hr
   clear hr hjn
   go_wp2_with fail
   go_ret
   exact ⟨congrArg (fun x => Ending.returned (Value.string x)) HR.out, rfl⟩
def IM (l : List ByteArray) : List It := (bl l).map item
theorem IM_bt (l : List ByteArray) : (l.map itB).map toIt = IM l := by simp [IM, bl, toIt_itB, Function.comp_def]
theorem IM_cons (x : ByteArray) (l : List ByteArray) : IM (x :: l) = item x.data.toList :: IM l := rfl
theorem IM_take (l : List ByteArray) (n : Nat) : IM (l.take n) = (IM l).take n := by simp [IM, bl_take]
theorem IM_drop (l : List ByteArray) (n : Nat) : IM (l.drop n) = (IM l).drop n := by simp [IM, bl_drop]
theorem IM_len (l : List ByteArray) : (IM l).length = l.length := by simp [IM, bl_length]
theorem pre_at {l : Line} {d : Nat} (h : d < (l.takeWhile star).length) : (l.takeWhile star)[d]? = l[d]? := by
 have h2 := List.takeWhile_append_dropWhile (p := star) (l := l)
 conv => rhs; rw [← h2]
 rw [List.getElem?_append_left h]
theorem deep_size {d : Nat} {y : ByteArray} {l : List ByteArray} (hd : Deep d (IM l)) (hy : y ∈ l) : d < (y.data.toList.takeWhile star).length ∧ d < y.size := by
 have h1 := hd (item y.data.toList) (List.mem_map.2 ⟨_, List.mem_map.2 ⟨y, hy, rfl⟩, rfl⟩)
 have h2 : d < (y.data.toList.takeWhile star).length := h1
 have h3 := twl_le star y.data.toList
 have h4 : y.data.toList.length = y.size := by simp
 exact ⟨h2, by omega⟩
theorem itB_at {d : Nat} {y : ByteArray} (h : d < (y.data.toList.takeWhile star).length) : (itB y).1.data.toList[d]? = y.data.toList[d]? := pre_at h
theorem run_lines {d : Nat} {x : ByteArray} {r : List ByteArray} (hd : Deep d (IM (x :: r))) :
  ∃ q, q = Blk.runN d (item x.data.toList).pre[d]? (IM r) ∧ q ≤ r.length ∧ (∀ i y, i < q → r[i]? = some y → (y.data.toList[d]? == x.data.toList[d]?) = true) ∧ (∀ y, r[q]? = some y → (y.data.toList[d]? == x.data.toList[d]?) = false) := by
 have hx := deep_size hd (List.mem_cons_self)
 have hd2 : Deep d ((itB x :: r.map itB).map toIt) := by
  have : (itB x :: r.map itB).map toIt = IM (x :: r) := IM_bt (x :: r)
  rw [this]; exact hd
 obtain ⟨q, h1, h2, h3, h4⟩ := run_facts hd2
 rw [List.length_map] at h2
 rw [IM_bt, toIt_itB] at h1
 have hy : ∀ (i : Nat) (y : ByteArray), r[i]? = some y → d < (y.data.toList.takeWhile star).length := fun i y h => (deep_size hd (List.mem_cons_of_mem _ (List.mem_of_getElem? h))).1
 refine ⟨q, h1, h2, fun i y hi hr => ?_, fun y hr => ?_⟩
 ·have := h3 i (itB y) hi (by rw [List.getElem?_map, hr]; rfl)
  rwa [itB_at (hy i y hr), itB_at hx.1] at this
 ·have := h4 (itB y) (by rw [List.getElem?_map, hr]; rfl)
  rwa [itB_at (hy q y hr), itB_at hx.1] at this
theorem deep_lines (d : Nat) (Y : List ByteArray) :
  ∃ q, q = deepN d (IM Y) ∧ q ≤ Y.length ∧ (∀ i y, i < q → Y[i]? = some y → d + 1 < (y.data.toList.takeWhile star).length) ∧ (∀ y, Y[q]? = some y → ¬ d + 1 < (y.data.toList.takeWhile star).length) := by
 obtain ⟨q, h1, h2, h3, h4⟩ := deep_facts d (Y.map itB)
 rw [List.length_map] at h2
 rw [IM_bt] at h1
 exact ⟨q, h1, h2, fun i y hi hr => h3 i (itB y) hi (by rw [List.getElem?_map, hr]; rfl), fun y hr => h4 (itB y) (by rw [List.getElem?_map, hr]; rfl)⟩
end Go.Proofs.YthieinfonomeeaaGreatDoor
namespace Go.Proofs.YthieinfonomeeaaGreatDoor
open Go.RowKit Doc Tit Inl Blk
set_option linter.unusedVariables false
attribute [local go_sem ↓] Go.wp_at_zero Go.wp_at_succ
def RListsR (N : Nat) : Prop := ∀ (d : Nat) (l : List ByteArray) (p : Option Addr) (c : Nat) (w : World), 2 * sumD d (IM l) ≤ N → Deep d (IM l) → Short l → l.length ≤ 1000000 → SL w p c l →
 Calls Tryz.prog 37 #[.slice p l.length c, .int .i64 d] w fun e w' => ∃ p' c', e = .returned (.slice p' (LI d (IM l)).len c') ∧ blsS.sl (fun k => w.heap.size ≤ k) w' (.slice p' (LI d (IM l)).len c') (LI d (IM l)) ∧ Below w.heap.size w w'
def RItemsR (N : Nat) : Prop := ∀ (d : Nat) (l : List ByteArray) (p : Option Addr) (c : Nat) (w : World), 2 * sumD d (IM l) ≤ N → Deep d (IM l) → Short l → l.length ≤ 1000000 → SL w p c l →
 Calls Tryz.prog 75 #[.slice p l.length c, .int .i64 d] w fun e w' => ∃ p' c', e = .returned (.slice p' (IT d (IM l)).len c') ∧ blsS.sl (fun k => w.heap.size ≤ k) w' (.slice p' (IT d (IM l)).len c') (IT d (IM l)) ∧ Below w.heap.size w w'
theorem SL.all {w : World} {p : Option Addr} {c : Nat} {l : List ByteArray} (h : SL w p c l) (h0 : 0 < l.length) : ∃ b o, p = some ⟨b, o, none⟩ ∧ b < w.heap.size ∧ ∀ (j : Nat) (x : ByteArray), l[j]? = some x → w.cell? ⟨b, o + j, none⟩ = some (.string x) := by
 rcases h.2.2 with h | h
 ·rw [h] at h0; cases h0
 ·exact h
theorem mid_at {l : List ByteArray} {i m : Nat} : ∀ (j : Nat) (x : ByteArray), ((l.drop i).take m)[j]? = some x → l[i + j]? = some x := fun j x h => by
 rw [List.getElem?_take] at h
 split at h
 ·rwa [List.getElem?_drop] at h
 ·cases h
theorem SL.mid {w : World} {b o c : Nat} {l : List ByteArray} (hb : b < w.heap.size) (hc : ∀ (j : Nat) (x : ByteArray), l[j]? = some x → w.cell? ⟨b, o + j, none⟩ = some (.string x)) (hn : l.length ≤ c) (hm : c ≤ 9223372036854775807) (i k : Nat) (hk : k ≤ l.length) :
  SL w (some ⟨b, o + i, none⟩) (c - i) ((l.drop i).take (k - i)) := by
 refine ⟨by rw [List.length_take, List.length_drop]; omega, by omega, .inr ⟨b, o + i, rfl, hb, fun j x hj => ?_⟩⟩
 rw [Nat.add_assoc]
 exact hc _ _ (mid_at j x hj)
theorem mid_len {l : List ByteArray} {i k : Nat} (hk : k ≤ l.length) : ((l.drop i).take (k - i)).length = k - i := by
 rw [List.length_take, List.length_drop]; omega
set_option maxRecDepth 20000 in
set_option maxHeartbeats 4000000 in
theorem rlists_step (N : Nat) (ih : ∀ M, M ≤ N → RItemsR M) : RListsR N := by
 intro d l p c w hN hd hs hll hv
 have hcap := hv.1
 have hcm := hv.2.1
 have hall := hv.all
 obtain ⟨n, hn⟩ : ∃ n, n = l.length := ⟨_, rfl⟩
 have HN := Lib.hid hn
 have HDEEP := Lib.hid hd
 have HS := Lib.hid hs
 have HALL := Lib.hid hall
 have HNN := Lib.hid hN
 rw [← hn] at hcap hll ⊢
 clear hn hd hs hall hN hv
 go_enter Tryz.func37, Tryz.ntmps37
 go_wp2_with fail
 go_loopg [5, 6] (n + 1) (fun g s5 s6 wr => ∃ (i : Nat) (D : Bls), s6 = .int .i64 i ∧ i ≤ n ∧ n < i + g ∧ D.app (LI d (IM (l.drop i))) = LI d (IM l) ∧ D.len ≤ i ∧ Below w.heap.size w wr ∧ blsS.own 44 (fun _ => False) w.heap.size wr s5 D)
 case atStart => exact ⟨0, .nil, rfl, by omega, by omega, rfl, Nat.le_refl _, Below.refl _ _, Shp.own.nil⟩
 case round =>
  obtain ⟨i, D, rfl, hin, hg, hD, hDl, hb, hown⟩ := hrel
  by_cases hi : i < n
  ·have g1 : decide (i < n) = true := decide_eq_true hi
   obtain ⟨b, o, rfl, hbl, hcc⟩ := HALL.out (by rw [← HN.out]; omega)
   obtain ⟨x, hx⟩ : ∃ x, l[i]? = some x := ⟨_, List.getElem?_eq_getElem (by rw [← HN.out]; exact hi)⟩
   obtain ⟨r, hr⟩ : ∃ r, r = l.drop (i + 1) := ⟨_, rfl⟩
   have hdr : l.drop i = x :: r := by rw [hr, List.drop_eq_getElem_cons (by rw [← HN.out]; exact hi)]; congr 1; exact Option.some.inj ((List.getElem?_eq_getElem _).symm.trans hx)
   have hdR : Deep d (IM (x :: r)) := by rw [← hdr, IM_drop]; exact HDEEP.out.drop i
   obtain ⟨q, hq, hql, hq1, hq2⟩ := run_lines hdR
   have hrl : r.length = n - (i + 1) := by rw [hr, List.length_drop, ← HN.out]
   have hxd := (deep_size hdR List.mem_cons_self).2
   have hxs := HS.out x (List.mem_of_getElem? hx)
   have hrj : ∀ j, r[j]? = l[i + 1 + j]? := fun j => by rw [hr, List.getElem?_drop]
   have hyd : ∀ (j : Nat) (y : ByteArray), r[j]? = some y → d < y.size := fun j y hy => (deep_size hdR (List.mem_cons_of_mem _ (List.mem_of_getElem? hy))).2
   have hdb : d ≤ 100000000 := by omega
   have hz := hb.size
   have hbl2 : b < wr.heap.size := Nat.lt_of_lt_of_le hbl hz
   have hcell : ∀ (j : Nat) (y : ByteArray), l[j]? = some y → wr.cell? ⟨b, o + j, none⟩ = some (.string y) := fun j y hy => (hb.cell (p := ⟨b, o + j, none⟩) hbl).trans (hcc j y hy)
   have c0 := hcell i x hx
   obtain ⟨K, hK⟩ : ∃ K, K = i + 1 + q := ⟨_, rfl⟩
   have hKn : K ≤ n := by omega
   have ht : ∀ k, i ≤ k → k ≤ K → (k < n → ∃ y : ByteArray, ∃ hy : d < y.size, l[k]? = some y ∧ (((y[d]'hy).toNat : Int) == ((x[d]'hxd).toNat : Int)) = decide (k < K)) := fun k h1 h2 h3 => by
    obtain ⟨y, hy⟩ : ∃ y, l[k]? = some y := ⟨_, List.getElem?_eq_getElem (by rw [← HN.out]; exact h3)⟩
    by_cases hki : k = i
    ·subst hki
     have : y = x := Option.some.inj (hy.symm.trans hx)
     subst this
     refine ⟨y, hxd, hy, ?_⟩
     rw [decide_eq_true (by omega)]; simp
    ·have hyr : r[k - (i + 1)]? = some y := by rw [hrj, show i + 1 + (k - (i + 1)) = k by omega]; exact hy
     have hyz := hyd _ y hyr
     refine ⟨y, hyz, hy, ?_⟩
     rw [byte_cmp hyz hxd]
     by_cases hkK : k < K
     ·rw [decide_eq_true hkK]; exact hq1 _ y (by omega) hyr
     ·rw [decide_eq_false hkK]
      obtain rfl : k = K := by omega
      have e : k - (i + 1) = q := by omega
      rw [e] at hyr
      exact hq2 y hyr
   have hli := LI_cons (x := item x.data.toList) (r := IM r) hdR
   rw [← hq] at hli
   have hsp := sumD_split d (K - i) (IM (l.drop i))
   have hsp0 := sumD_split d i (IM l)
   rw [← IM_drop] at hsp0
   have htk : IM ((l.drop i).take (K - i)) = (IM (l.drop i)).take (K - i) := IM_take _ _
   have hdk : IM (l.drop K) = (IM (l.drop i)).drop (K - i) := by rw [← IM_drop, List.drop_drop, show i + (K - i) = K by omega]
   have hlen := mid_len (l := l) (i := i) (k := K) (by rw [← HN.out]; exact hKn)
   have hC := fun (W : World) (hW : Below wr.heap.size wr W) => ih _ (Nat.le_refl _) d ((l.drop i).take (K - i)) (some ⟨b, o + i, none⟩) (c - i) W (by rw [htk]; have := HNN.out; omega) (by rw [htk, IM_drop]; exact (HDEEP.out.drop i).take _) (fun y hy => HS.out y (List.mem_of_mem_drop (List.mem_of_mem_take hy))) (by rw [hlen]; omega)
    (SL.mid (Nat.lt_of_lt_of_le hbl2 hW.size) (fun j y hy => (hW.cell (p := ⟨b, o + j, none⟩) hbl2).trans (hcell j y hy)) (by rw [← HN.out]; omega) hcm i K (by rw [← HN.out]; exact hKn))
   rw [hlen, htk] at hC
   have hLI : LI d (IM (l.drop i)) = (blk 3 (if x.data.toList[d]? = some 35 then 1 else 0) [] .nil (IT d ((IM (l.drop i)).take (K - i)))).app (LI d (IM (l.drop K))) := by
    rw [hdk, hdr, IM_cons, hli, show K - i = q + 1 by omega]
    have hp : (item x.data.toList).pre[d]? = x.data.toList[d]? := pre_at (deep_size hdR List.mem_cons_self).1
    rw [hp]
   rw [hLI] at hD
   obtain ⟨Q, hQ⟩ : ∃ Q, IT d ((IM (l.drop i)).take (K - i)) = Q := ⟨_, rfl⟩
   rw [hQ] at hD
   simp only [hQ] at hC
   have e35 : (((x[d]'hxd).toNat : Int) == 35) = decide (x.data.toList[d]? = some 35) := byte_is hxd 35 (by decide)
   obtain ⟨z, hz0⟩ : ∃ z : UInt8, x[d]'hxd = z := ⟨_, rfl⟩
   rw [hz0] at e35
   simp only [hz0] at ht
   have HC := Lib.hid hC
   have HT := Lib.hid ht
   have HD := Lib.hid hD
   have HB := Lib.hid hb
   have HO := Lib.hid hown
   have HCELL := Lib.hid hcell
   have H35 := Lib.hid e35
   clear hC ht hD hb hown hcell e35 hli hsp hsp0 htk hdk hlen hLI hQ hq hq1 hq2 hrj hyd hr hdr hdR hrl hcc hql hx
   have hiK : i + 1 ≤ K := by omega
   clear hK
   obtain ⟨wo, hwo⟩ : ∃ wo, wo = wr := ⟨_, rfl⟩
   subst hwo
   obtain ⟨gO, hgO⟩ : ∃ gO, gO = gk := ⟨_, rfl⟩
   subst hgO
   go_wp2_with fail
   go_loopg [7] (n + 1) (fun g s7 wi => ∃ k : Nat, s7 = .int .i64 k ∧ i ≤ k ∧ k ≤ K ∧ K < k + g ∧ Below wo.heap.size wo wi)
   case atStart => exact ⟨i, rfl, Nat.le_refl _, by omega, by omega, Below.refl _ _⟩
   case round =>
    obtain ⟨k, rfl, hik, hkK, hgk, hbi⟩ := hrel
    obtain ⟨t, htt⟩ : ∃ t : Bool, decide (k < K) = t := ⟨_, rfl⟩
    have hb32 : b < wr.heap.size := Nat.lt_of_lt_of_le hbl2 hbi.size
    have d0 := (hbi.cell (p := ⟨b, o + i, none⟩) hbl2).trans c0
    go_upto_region 5 with fail
    go_cut [32] from 14 to 32 (fun s32 wc => s32 = .bool t ∧ Below wr.heap.size wr wc)
    case first =>
     by_cases hkn : k < n
     ·have g2 : decide (k < n) = true := decide_eq_true hkn
      obtain ⟨y, hy, hyl, hcmp⟩ := HT.out k hik hkK hkn
      rw [htt] at hcmp
      have d1 := (hbi.cell (p := ⟨b, o + k, none⟩) hbl2).trans (HCELL.out k y hyl)
      clear htt hyl c0
      refine wp_region_gr (by kernel_rfl) (by kernel_rfl) ?_
      repeat (go_big_quiet_step (fail))
      with_reducible refine wpQuiet_nil ?_
      intro _ hw'; obtain ⟨w6, hw''⟩ := hw'; subst hw''
      have B6 := gr_below wr w6
      go_wp2_with fail
      go_meet
      case rel => exact ⟨rfl, B6⟩
     ·have g2 : decide (k < n) = false := decide_eq_false hkn
      have ht2 : t = false := by rw [← htt]; exact decide_eq_false (by omega)
      subst ht2
      clear htt c0
      refine wp_region_gr (by kernel_rfl) (by kernel_rfl) ?_
      repeat (go_big_quiet_step (fail))
      with_reducible refine wpQuiet_nil ?_
      intro _ hw'; obtain ⟨w6, hw''⟩ := hw'; subst hw''
      have B6 := gr_below wr w6
      go_wp2_with fail
      go_meet
      case rel => exact ⟨rfl, B6⟩
    case rest =>
     obtain ⟨rfl, hbc⟩ := hcut
     have hbi2 := below_then hbi hbc
     clear hbc hbi d0 hb32
     cases t with
     | true =>
       have hkK2 : k < K := of_decide_eq_true htt
       clear htt
       go_wp2_with fail
       go_roundg (K - k)
       case measure => omega
       case rel => exact ⟨k + 1, by go_num, by omega, by omega, by omega, hbi2⟩
     | false =>
       have hkK2 : k = K := by have := of_decide_eq_false htt; omega
       subst hkK2
       clear htt
       have hC2 := HC.out _ hbi2
       have HC2 := Lib.hid hC2
       have hzw := HB.out.size
       have hzi := hbi2.size
       have HOI := Lib.hid (HO.out.below hbi2)
       have HBI := Lib.hid (below_then HB.out hbi2)
       have HBO := Lib.hid hbi2
       have d1 := (hbi2.cell (p := ⟨b, o + i, none⟩) hbl2).trans c0
       have hb6 : b < wc.heap.size := Nat.lt_of_lt_of_le hbl2 hzi
       clear hC2 HC HT hbi2 c0
       by_cases h35 : x.data.toList[d]? = some 35
       ·have g35 : ((z.toNat : Int) == 35) = true := by rw [H35.out]; exact decide_eq_true h35
        have hdd := HD.out
        rw [if_pos h35] at hdd
        have hdd2 : (D.app (.cons 3 1 ⟨#[]⟩ .nil Q .nil)).app (LI d (IM (l.drop k))) = LI d (IM l) := by rw [Bls.app_assoc]; exact hdd
        have HDD2 := Lib.hid hdd2
        clear hdd hdd2 h35 H35 HD
        go_wp2_with fail
        refine HC2.out.mono ?_
        rintro e w2 ⟨kp, kc, rfl, hks, hb2⟩
        have hok := blk_ready (a := 3) (l := 1) (t := ⟨#[]⟩) (iv := .slice none 0 0) (kv := .slice kp Q.len kc) (i := .nil) (k := Q) HOI.out (by omega) (below_then hb2 (below_new0 w2 (.cells #[.int .i64 3, .int .i64 1, .string ⟨#[]⟩, .slice none 0 0, .slice kp Q.len kc] 44))) Sl.empty (blsS.sl_on hks (Kept.below (below_new0 w2 _)))
        simp only [World.size_alloc] at hok
        have HOK := Lib.hid hok
        have d2 := (hb2.cell (p := ⟨b, o + i, none⟩) hb6).trans d1
        have hb7 : b < w2.heap.size := Nat.lt_of_lt_of_le hb6 hb2.size
        clear hok hks hb2 HC2 d1
        go_wp2_with (at_builtin; go_must (refine append_shp blsS tyB _ rfl _ _ rfl HOK.out.1 rfl HOK.out.2.1 rfl (by show (D.len + 1) * 81 ≤ _; omega) (by simp only [World.size_alloc]; exact HOK.out.2.2.1) ?_); intro v' w5 hown' hgrow hbel hkd)
        have hbn := hbel w (below_then HBI.out HOK.out.2.2.2)
        have HOW5 := Lib.hid hown'
        clear hgrow hbel hkd hown'
        go_wp2_with fail
        go_roundg (n - i)
        case measure => omega
        case rel => exact ⟨k, D.app (.cons 3 1 ⟨#[]⟩ .nil Q .nil), rfl, hKn, by omega, HDD2.out, by rw [Bls.len_app]; show D.len + 1 ≤ _; omega, hbn, HOW5.out⟩
       ·have g35 : ((z.toNat : Int) == 35) = false := by rw [H35.out]; exact decide_eq_false h35
        have hdd := HD.out
        rw [if_neg h35] at hdd
        have hdd2 : (D.app (.cons 3 0 ⟨#[]⟩ .nil Q .nil)).app (LI d (IM (l.drop k))) = LI d (IM l) := by rw [Bls.app_assoc]; exact hdd
        have HDD2 := Lib.hid hdd2
        clear hdd hdd2 h35 H35 HD
        go_wp2_with fail
        refine HC2.out.mono ?_
        rintro e w2 ⟨kp, kc, rfl, hks, hb2⟩
        have hok := blk_ready (a := 3) (l := 0) (t := ⟨#[]⟩) (iv := .slice none 0 0) (kv := .slice kp Q.len kc) (i := .nil) (k := Q) HOI.out (by omega) (below_then hb2 (below_new0 w2 (.cells #[.int .i64 3, .int .i64 0, .string ⟨#[]⟩, .slice none 0 0, .slice kp Q.len kc] 44))) Sl.empty (blsS.sl_on hks (Kept.below (below_new0 w2 _)))
        simp only [World.size_alloc] at hok
        have HOK := Lib.hid hok
        have d2 := (hb2.cell (p := ⟨b, o + i, none⟩) hb6).trans d1
        have hb7 : b < w2.heap.size := Nat.lt_of_lt_of_le hb6 hb2.size
        clear hok hks hb2 HC2 d1
        go_wp2_with (at_builtin; go_must (refine append_shp blsS tyB _ rfl _ _ rfl HOK.out.1 rfl HOK.out.2.1 rfl (by show (D.len + 1) * 81 ≤ _; omega) (by simp only [World.size_alloc]; exact HOK.out.2.2.1) ?_); intro v' w5 hown' hgrow hbel hkd)
        have hbn := hbel w (below_then HBI.out HOK.out.2.2.2)
        have HOW5 := Lib.hid hown'
        clear hgrow hbel hkd hown'
        go_wp2_with fail
        go_roundg (n - i)
        case measure => omega
        case rel => exact ⟨k, D.app (.cons 3 0 ⟨#[]⟩ .nil Q .nil), rfl, hKn, by omega, HDD2.out, by rw [Bls.len_app]; show D.len + 1 ≤ _; omega, hbn, HOW5.out⟩
  ·have hie : i = n := by omega
   subst hie
   have g1 : decide (i < i) = false := by simp
   obtain ⟨p', c', hvv⟩ := hown.form
   have hDD : D = LI d (IM l) := by
    rw [← hD, List.drop_eq_nil_of_le (by rw [← HN.out]; exact Nat.le_refl _)]
    show D = D.app (LI d [])
    rw [LI_nil, Bls.app_nil]
   have h3 := hown.sl
   rw [hvv] at h3
   subst hvv
   have h4 := blsS.sl_on h3 (q' := fun k => w.heap.size ≤ k) (Kept.mono fun k hk _ => by rcases hk with h | h; exact h.elim; exact h)
   have H4 := Lib.hid h4
   have HDD := Lib.hid hDD
   clear hown hD h3 h4 hDD
   go_wp2_with fail
   go_ret
   exact ⟨p', c', by rw [← HDD.out]; rfl, by rw [← HDD.out]; exact H4.out, hb⟩
end Go.Proofs.YthieinfonomeeaaGreatDoor
namespace Go.Proofs.YthieinfonomeeaaGreatDoor
open Go.RowKit Doc Tit Inl Blk
set_option linter.unusedVariables false
attribute [local go_sem ↓] Go.wp_at_zero Go.wp_at_succ
set_option maxRecDepth 20000 in
set_option maxHeartbeats 4000000 in
theorem ritems_step (N : Nat) (ih : ∀ M, M < N → RListsR M) : RItemsR N := by
 intro d l p c w hN hd hs hll hv
 have hcap := hv.1
 have hcm := hv.2.1
 have hall := hv.all
 obtain ⟨n, hn⟩ : ∃ n, n = l.length := ⟨_, rfl⟩
 have HN := Lib.hid hn
 have HDEEP := Lib.hid hd
 have HS := Lib.hid hs
 have HALL := Lib.hid hall
 have HNN := Lib.hid hN
 rw [← hn] at hcap hll ⊢
 clear hn hd hs hall hN hv
 go_enter Tryz.func75, Tryz.ntmps75
 go_wp2_with fail
 go_loopg [5, 6] (n + 1) (fun g s5 s6 wr => ∃ (i : Nat) (D : Bls), s6 = .int .i64 i ∧ i ≤ n ∧ n < i + g ∧ D.app (IT d (IM (l.drop i))) = IT d (IM l) ∧ D.len ≤ i ∧ Below w.heap.size w wr ∧ blsS.own 44 (fun _ => False) w.heap.size wr s5 D)
 case atStart => exact ⟨0, .nil, rfl, by omega, by omega, rfl, Nat.le_refl _, Below.refl _ _, Shp.own.nil⟩
 case round =>
  obtain ⟨i, D, rfl, hin, hg, hD, hDl, hb, hown⟩ := hrel
  by_cases hi : i < n
  ·have g1 : decide (i < n) = true := decide_eq_true hi
   obtain ⟨b, o, rfl, hbl, hcc⟩ := HALL.out (by rw [← HN.out]; omega)
   obtain ⟨x, hx⟩ : ∃ x, l[i]? = some x := ⟨_, List.getElem?_eq_getElem (by rw [← HN.out]; exact hi)⟩
   obtain ⟨r, hr⟩ : ∃ r, r = l.drop (i + 1) := ⟨_, rfl⟩
   have hdr : l.drop i = x :: r := by rw [hr, List.drop_eq_getElem_cons (by rw [← HN.out]; exact hi)]; congr 1; exact Option.some.inj ((List.getElem?_eq_getElem _).symm.trans hx)
   have hdR : Deep d (IM (x :: r)) := by rw [← hdr, IM_drop]; exact HDEEP.out.drop i
   have hxd := deep_size hdR List.mem_cons_self
   have hxs := HS.out x (List.mem_of_getElem? hx)
   have hdb : d ≤ 100000000 := by omega
   have hz := hb.size
   have hbl2 : b < wr.heap.size := Nat.lt_of_lt_of_le hbl hz
   have hcell : ∀ (j : Nat) (y : ByteArray), l[j]? = some y → wr.cell? ⟨b, o + j, none⟩ = some (.string y) := fun j y hy => (hb.cell (p := ⟨b, o + j, none⟩) hbl).trans (hcc j y hy)
   have c0 := hcell i x hx
   have hst := IT_step (x := item x.data.toList) (r := IM r) hdR
   obtain ⟨F, hF⟩ : ∃ F, F = own1 d (item x.data.toList) := ⟨_, rfl⟩
   obtain ⟨I, hI⟩ : ∃ I, I = ownT d (item x.data.toList) := ⟨_, rfl⟩
   rw [← hF, ← hI, ← IM_cons, ← hdr, ← IM_drop, List.drop_drop] at hst
   obtain ⟨q, hq, hql, hq1, hq2⟩ := deep_lines d (l.drop (i + F))
   rw [← hq] at hst
   have hpre : (item x.data.toList).pre.length = (x.data.toList.takeWhile star).length := rfl
   obtain ⟨pl, hpl⟩ : ∃ pl, pl = (x.data.toList.takeWhile star).length := ⟨_, rfl⟩
   have hF1 : (pl = d + 1 → F = 1 ∧ I = read (trimW ws4 (x.extract (d + 1) x.size).data.toList)) ∧ (¬ pl = d + 1 → F = 0 ∧ I = .nil) := by
    rw [hF, hI]
    unfold own1 ownT
    rw [hpre, ← hpl]
    refine ⟨fun h => ?_, fun h => by rw [if_neg h, if_neg h]; exact ⟨rfl, rfl⟩⟩
    rw [if_pos h, if_pos h]
    refine ⟨rfl, ?_⟩
    show read (trimW ws4 (x.data.toList.dropWhile star)) = _
    rw [dw_drop, ← hpl, h, Lib.extract_to_end]
   have hFle : F ≤ 1 := by rcases Nat.decEq pl (d + 1) with h | h; have := (hF1.2 h).1; omega; have := (hF1.1 h).1; omega
   rw [List.length_drop, ← HN.out] at hql
   have hFq : 1 ≤ F + q := by
    rcases Nat.decEq pl (d + 1) with h | h
    ·have hF0 := (hF1.2 h).1
     rw [hF0, Nat.add_zero, hdr, IM_cons] at hq
     have := deepN_pos (d := d) (x := item x.data.toList) (r := IM r) (by rw [hpre, ← hpl]; have := hxd.1; omega)
     omega
    ·have := (hF1.1 h).1; omega
   obtain ⟨K, hK⟩ : ∃ K, K = i + F + q := ⟨_, rfl⟩
   have hKn : K ≤ n := by omega
   have hKi : i + 1 ≤ K := by omega
   have hFK : i + F ≤ K := by omega
   have ht : ∀ k, i + F ≤ k → k ≤ K → (k < n → ∃ y : ByteArray, l[k]? = some y ∧ y.size ≤ 100000000 ∧ decide (d + 1 < (y.data.toList.takeWhile star).length) = decide (k < K)) := fun k h1 h2 h3 => by
    obtain ⟨y, hy⟩ : ∃ y, l[k]? = some y := ⟨_, List.getElem?_eq_getElem (by rw [← HN.out]; exact h3)⟩
    have hyr : (l.drop (i + F))[k - (i + F)]? = some y := by rw [List.getElem?_drop, show i + F + (k - (i + F)) = k by omega]; exact hy
    refine ⟨y, hy, HS.out y (List.mem_of_getElem? hy), ?_⟩
    by_cases hkK : k < K
    ·rw [decide_eq_true hkK]; exact decide_eq_true (hq1 _ y (by omega) hyr)
    ·rw [decide_eq_false hkK]
     obtain rfl : k = K := by omega
     have e : k - (i + F) = q := by omega
     rw [e] at hyr
     exact decide_eq_false (hq2 y hyr)
   have hlen := mid_len (l := l) (i := i + F) (k := K) (by rw [← HN.out]; exact hKn)
   have htk : IM ((l.drop (i + F)).take (K - (i + F))) = (IM (l.drop (i + F))).take q := by rw [IM_take, show K - (i + F) = q by omega]
   have hdk : (IM (l.drop i)).drop (F + q) = IM (l.drop K) := by rw [← IM_drop, List.drop_drop, show i + (F + q) = K by omega]
   have hdF : Deep d (IM (l.drop (i + F))) := by rw [IM_drop]; exact HDEEP.out.drop _
   have hdt : Deep (d + 1) ((IM (l.drop (i + F))).take q) := by rw [hq]; exact deep_take _
   have hsu := sumD_succ d _ (hdF.take q)
   have hsp := sumD_split d q (IM (l.drop (i + F)))
   have hsp2 := sumD_split d F (IM (l.drop i))
   rw [← IM_drop, List.drop_drop] at hsp2
   have hsp3 := sumD_split d i (IM l)
   rw [← IM_drop] at hsp3
   have hql2 : (List.take q (IM (l.drop (i + F)))).length = q := by rw [List.length_take, IM_len, List.length_drop, ← HN.out]; omega
   rw [hql2] at hsu
   have hsF : 1 ≤ F → 1 ≤ sumD d ((IM (l.drop i)).take F) := fun h => by
    obtain ⟨F', rfl⟩ : ∃ F', F = F' + 1 := ⟨F - 1, by omega⟩
    rw [hdr, IM_cons, List.take_succ_cons, sumD_cons]
    have := hdR (item x.data.toList) (by rw [IM_cons]; exact List.mem_cons_self)
    omega
   have hmeas : 2 * sumD (d + 1) ((IM (l.drop (i + F))).take q) < N := by
    have h1 := HNN.out
    have h2 : 1 ≤ sumD d (IM (x :: r)) := sumD_pos hdR
    rw [← hdr] at h2
    omega
   have hC := fun (pp : Option Addr) (cc : Nat) (W : World) (hsl : SL W pp cc ((l.drop (i + F)).take (K - (i + F)))) => ih _ hmeas (d + 1) ((l.drop (i + F)).take (K - (i + F))) pp cc W (by rw [htk]; exact Nat.le_refl _) (by rw [htk]; exact hdt) (fun y hy => HS.out y (List.mem_of_mem_drop (List.mem_of_mem_take hy))) (by rw [hlen]; omega) hsl
   rw [hlen, htk] at hC
   rw [hdk] at hst
   rw [hst] at hD
   have hSLa : ¬ c = i + F → SL wr (some ⟨b, o + (i + F), none⟩) (c - (i + F)) ((l.drop (i + F)).take (K - (i + F))) := fun _ => SL.mid hbl2 hcell (by rw [← HN.out]; omega) hcm (i + F) K (by rw [← HN.out]; exact hKn)
   have hSLb : c = i + F → ((l.drop (i + F)).take (K - (i + F))) = [] := fun h => List.length_eq_zero_iff.1 (by rw [hlen]; omega)
   obtain ⟨MID, hMID⟩ : ∃ MID, (l.drop (i + F)).take (K - (i + F)) = MID := ⟨_, rfl⟩
   rw [hMID] at hSLa hSLb
   simp only [hMID] at hC
   obtain ⟨Q, hQ⟩ : ∃ Q, LI (d + 1) ((IM (l.drop (i + F))).take q) = Q := ⟨_, rfl⟩
   rw [hQ] at hD
   simp only [hQ] at hC
   have hPX := fun W => rprefix_any x W hxs
   rw [← hpl] at hPX
   have HC := Lib.hid hC
   have HT := Lib.hid ht
   have HD := Lib.hid hD
   have HB := Lib.hid hb
   have HO := Lib.hid hown
   have HCELL := Lib.hid hcell
   have HFI := Lib.hid hF1
   have HPX := Lib.hid hPX
   have HSLA := Lib.hid hSLa
   have HSLB := Lib.hid hSLb
   have HCAST : Hid (((d : Int) + 1) = ((d + 1 : Nat) : Int)) := Lib.hid (by omega)
   have hxsz : d + 1 ≤ x.size := by omega
   have hplx : pl ≤ x.size := by
    have h3 := twl_le star x.data.toList
    have h4 : x.data.toList.length = x.size := by simp
    omega
   clear hC ht hD hb hown hcell hF1 hPX hSLa hSLb hst hsp hsp2 hsp3 hsu htk hdk hlen hQ hq hq1 hq2 hr hdr hdR hcc hql hx hdF hdt hql2 hsF hmeas hK hF hI hpre hMID hpl hxd
   obtain ⟨wo, hwo⟩ : ∃ wo, wo = wr := ⟨_, rfl⟩
   subst hwo
   obtain ⟨gO, hgO⟩ : ∃ gO, gO = gk := ⟨_, rfl⟩
   subst hgO
   have d0 := ((below_new0 wo (.cells #[.int .i64 4, .int .i64 0, .string ⟨#[]⟩, .slice none 0 0, .slice none 0 0] 44)).cell (p := ⟨b, o + i, none⟩) hbl2).trans c0
   have hbl3 : b < (wo.alloc (.cells #[.int .i64 4, .int .i64 0, .string ⟨#[]⟩, .slice none 0 0, .slice none 0 0] 44)).heap.size := by rw [World.size_alloc]; omega
   obtain ⟨bx, hbx⟩ : ∃ bx, ((pl : Int) == (d : Int) + 1) = bx := ⟨_, rfl⟩
   go_wp2_with fail
   refine (HPX.out _).mono ?_
   rintro e w1 ⟨rfl, rfl⟩
   go_upto_if 23 with fail
   go_cut [8] from 24 to 35 (fun s8 wc => s8 = .int .i64 (i + F : Nat) ∧ ∃ ip ic, Known wc wo.heap.size 44 #[.int .i64 4, .int .i64 0, .string ⟨#[]⟩, .slice ip I.len ic, .slice none 0 0] ∧ insS.sl (fun k => wo.heap.size ≤ k ∧ k ≠ wo.heap.size) wc (.slice ip I.len ic) I ∧ Below wo.heap.size wo wc)
   case first =>
    have K0 := Known.made wo 44 #[.int .i64 4, .int .i64 0, .string ⟨#[]⟩, .slice none 0 0, .slice none 0 0]
    cases bx with
    | true =>
      have hx : pl = d + 1 := by have := eq_of_beq hbx; omega
      obtain ⟨rfl, hI⟩ := HFI.out.1 hx
      obtain ⟨X, hX⟩ : ∃ X, x.extract (d + 1) x.size = X := ⟨_, rfl⟩
      have hXz : X.size ≤ 100000000 := by rw [← hX, ByteArray.size_extract]; omega
      rw [hX] at hI
      have hTR := fun W => rtrim_any X W hXz
      obtain ⟨Y, hY⟩ : ∃ Y : ByteArray, ⟨(trimW ws4 X.data.toList).toArray⟩ = Y := ⟨_, rfl⟩
      have hYd : Y.data.toList = trimW ws4 X.data.toList := by rw [← hY]
      have hYz : Y.size ≤ 100000000 := by
       have h1 := trimW_le ws4 X.data.toList
       rw [← hYd] at h1
       have h2 : X.data.toList.length = X.size := by simp
       have h3 : Y.data.toList.length = Y.size := by simp
       omega
      rw [hY] at hTR
      rw [← hYd] at hI
      have hCP := fun W => rparse17_any Y W hYz
      rw [← hI] at hCP
      have HTR := Lib.hid hTR
      have HCP := Lib.hid hCP
      clear hTR hCP hI hY hYd hx hbx
      go_wp2_with fail
      refine (HTR.out _).mono ?_
      rintro e w1 ⟨rfl, rfl⟩
      go_wp2_with fail
      refine (HCP.out _).mono ?_
      rintro e w2 ⟨ip, ic, rfl, his, hb2⟩
      have K2 := K0.on hb2
      have f3 := K2.free 3
      have x3 := K2.cell 3
      have hXl := K2.lt
      have HIS := Lib.hid his
      have HB2 := Lib.hid hb2
      have HK2 := Lib.hid K2
      clear his hb2 K2 K0
      go_wp2_with fail
      go_meet
      case rel =>
       have his := HIS.out
       rw [World.size_alloc] at his
       refine ⟨by go_num, ip, ic, HK2.out.put 3 _, insS.sl_on (insS.sl_on his (Kept.mono fun k hk _ => ⟨by omega, by omega⟩)) (Kept.put (fun k hk => hk.2) _ _), ((below_new0 wo _).trans (HB2.out.mono (by simp))).setCell (Nat.le_refl _) _⟩
    | false =>
      have hx : ¬ pl = d + 1 := by
       intro h
       rw [h] at hbx
       simp at hbx
      obtain ⟨rfl, rfl⟩ := HFI.out.2 hx
      clear hx hbx
      go_wp2_with fail
      go_meet
      case rel => exact ⟨by go_num, none, 0, K0, Sl.empty, below_new0 _ _⟩
   case rest =>
    obtain ⟨rfl, ip, ic, K3, his, hb3⟩ := hcut
    have HK3 := Lib.hid K3
    have HIS := Lib.hid his
    have HB3 := Lib.hid hb3
    have hcells : ∀ (j : Nat) (y : ByteArray), l[j]? = some y → wc.cell? ⟨b, o + j, none⟩ = some (.string y) := fun j y hy => (hb3.cell (p := ⟨b, o + j, none⟩) hbl2).trans (HCELL.out j y hy)
    have HCE := Lib.hid hcells
    have hbl4 : b < wc.heap.size := Nat.lt_of_lt_of_le hbl2 hb3.size
    clear K3 his hb3 hcells d0 c0 hbl3 hbx
    obtain ⟨V, hV⟩ : ∃ V, V = wc := ⟨_, rfl⟩
    subst hV
    obtain ⟨fr, hfr⟩ : ∃ fr, i + F = fr := ⟨_, rfl⟩
    rw [hfr] at hFK HT HSLA HSLB HC ⊢
    clear hfr
    go_wp2_with fail
    go_loopg [8] (n + 1) (fun g s8 wi => ∃ k : Nat, s8 = .int .i64 k ∧ fr ≤ k ∧ k ≤ K ∧ K < k + g ∧ wi = V)
    case atStart => exact ⟨fr, rfl, Nat.le_refl _, by omega, by omega, rfl⟩
    case round =>
     obtain ⟨k, rfl, hik, hkK, hgk, hwi⟩ := hrel
     subst hwi
     obtain ⟨t, htt⟩ : ∃ t : Bool, decide (k < K) = t := ⟨_, rfl⟩
     go_upto_region 10 with fail
     go_cut [50] from 37 to 50 (fun s50 wd => s50 = .bool t ∧ wr = wd)
     case first =>
      by_cases hkn : k < n
      ·have g2 : decide (k < n) = true := decide_eq_true hkn
       obtain ⟨y, hyl, hyz, hcmp⟩ := HT.out k hik hkK hkn
       rw [htt] at hcmp
       have hPY := fun W => rprefix_any y W hyz
       obtain ⟨py, hpy⟩ : ∃ py, py = (y.data.toList.takeWhile star).length := ⟨_, rfl⟩
       rw [← hpy] at hPY hcmp
       have d1 := HCE.out k y hyl
       have hcmp2 : decide ((d : Int) + 1 < (py : Int)) = t := by
        rw [← hcmp, Bool.eq_iff_iff]; simp; omega
       have HPY := Lib.hid hPY
       clear htt hyl hcmp hPY hpy
       go_wp2_with fail
       refine (HPY.out _).mono ?_
       rintro e w1 ⟨rfl, rfl⟩
       go_wp2_with fail
       go_meet
       case rel => exact ⟨rfl, rfl⟩
      ·have g2 : decide (k < n) = false := decide_eq_false hkn
       have ht2 : t = false := by rw [← htt]; exact decide_eq_false (by omega)
       subst ht2
       clear htt
       go_wp2_with fail
       go_meet
       case rel => exact ⟨rfl, rfl⟩
     case rest =>
      obtain ⟨rfl, rfl⟩ := hcut
      cases t with
      | true =>
        have hkK2 : k < K := of_decide_eq_true htt
        clear htt
        go_wp2_with fail
        go_roundg (K - k)
        case measure => omega
        case rel => exact ⟨k + 1, by go_num, by omega, by omega, by omega, rfl⟩
      | false =>
        have hkK2 : k = K := by have := of_decide_eq_false htt; omega
        subst hkK2
        clear htt
        have hzw := HB.out.size
        have hXlt : wo.heap.size < wr.heap.size := HK3.out.lt
        have hdd := HD.out
        have hd2 : (D.app (.cons 4 0 ⟨#[]⟩ I Q .nil)).app (IT d (IM (l.drop k))) = IT d (IM l) := by rw [Bls.app_assoc]; exact hdd
        have HD2 := Lib.hid hd2
        clear hdd hd2 HD
        by_cases hcF : c = fr
        ·have hC2 := HC.out (some ⟨b, o, none⟩) 0 wr (by rw [HSLB.out hcF]; exact SL.none_left)
         rw [show k - fr = 0 by omega] at hC2
         have HC2 := Lib.hid hC2
         have hk0 : k = c := by omega
         have hfc : fr = c := hcF.symm
         clear hC2 HC hcF
         subst hk0
         subst hfc
         go_wp2_with fail
         rw [HCAST.out]
         refine HC2.out.mono ?_
         rintro e w4 ⟨kp, kc, rfl, hks, hb4⟩
         have K4 := HK3.out.on hb4
         have f4 := K4.free 4
         have x0 := K4.cell 0
         have x1 := K4.cell 1
         have x2 := K4.cell 2
         have x3 := K4.cell 3
         have x4 := K4.cell 4
         have hXl4 := K4.lt
         have hzz : wo.heap.size ≤ wr.heap.size := HB3.out.size
         have hi5 : insS.sl (fun k => wo.heap.size ≤ k) (w4.setCell ⟨wo.heap.size, 4, none⟩ (.slice kp Q.len kc)) (.slice ip I.len ic) I := insS.sl_on (insS.sl_on (insS.sl_on HIS.out (Kept.below hb4)) (Kept.put (fun k hk => hk.2) 4 (.slice kp Q.len kc))) (Kept.mono fun k hk _ => hk.1)
         have hk5 : blsS.sl (fun k => wo.heap.size ≤ k) (w4.setCell ⟨wo.heap.size, 4, none⟩ (.slice kp Q.len kc)) (.slice kp Q.len kc) Q := blsS.sl_on (blsS.sl_on hks (Kept.put (fun k hk => by omega) 4 (.slice kp Q.len kc))) (Kept.mono fun k hk _ => by omega)
         have hb5 : Below wo.heap.size wo (w4.setCell ⟨wo.heap.size, 4, none⟩ (.slice kp Q.len kc)) := (below_then HB3.out hb4).setCell (Nat.le_refl _) _
         have hok := blk_ready (a := 4) (l := 0) (t := ⟨#[]⟩) (i := I) (k := Q) HO.out hzw hb5 hi5 hk5
         have hszs : (w4.setCell ⟨wo.heap.size, 4, none⟩ (.slice kp Q.len kc)).heap.size = w4.heap.size := by simp
         rw [World.size_alloc, hszs] at hok
         have HOK := Lib.hid hok
         clear hok hks hb4 hi5 hk5 hb5 HC2 K4
         go_wp2_with (at_builtin; go_must (refine append_shp blsS tyB _ rfl _ _ rfl HOK.out.1 rfl HOK.out.2.1 rfl (by show (D.len + 1) * 81 ≤ _; omega) (by rw [World.size_alloc, hszs]; exact HOK.out.2.2.1) ?_); intro v' w5 hown' hgrow hbel hkd)
         have hbn := hbel w (below_then HB.out HOK.out.2.2.2)
         have HOW5 := Lib.hid hown'
         clear hgrow hbel hkd hown'
         go_wp2_with fail
         go_roundg (n - i)
         case measure => omega
         case rel => exact ⟨fr, D.app (.cons 4 0 ⟨#[]⟩ I Q .nil), rfl, hKn, by omega, HD2.out, by rw [Bls.len_app]; show D.len + 1 ≤ _; omega, hbn, HOW5.out⟩
        ·have hC2 := HC.out (some ⟨b, o + fr, none⟩) (c - fr) wr ((HSLA.out hcF).below HB3.out)
         have HC2 := Lib.hid hC2
         clear hC2 HC
         go_wp2_with fail
         rw [HCAST.out]
         refine HC2.out.mono ?_
         rintro e w4 ⟨kp, kc, rfl, hks, hb4⟩
         have K4 := HK3.out.on hb4
         have f4 := K4.free 4
         have x0 := K4.cell 0
         have x1 := K4.cell 1
         have x2 := K4.cell 2
         have x3 := K4.cell 3
         have x4 := K4.cell 4
         have hXl4 := K4.lt
         have hzz : wo.heap.size ≤ wr.heap.size := HB3.out.size
         have hi5 : insS.sl (fun k => wo.heap.size ≤ k) (w4.setCell ⟨wo.heap.size, 4, none⟩ (.slice kp Q.len kc)) (.slice ip I.len ic) I := insS.sl_on (insS.sl_on (insS.sl_on HIS.out (Kept.below hb4)) (Kept.put (fun k hk => hk.2) 4 (.slice kp Q.len kc))) (Kept.mono fun k hk _ => hk.1)
         have hk5 : blsS.sl (fun k => wo.heap.size ≤ k) (w4.setCell ⟨wo.heap.size, 4, none⟩ (.slice kp Q.len kc)) (.slice kp Q.len kc) Q := blsS.sl_on (blsS.sl_on hks (Kept.put (fun k hk => by omega) 4 (.slice kp Q.len kc))) (Kept.mono fun k hk _ => by omega)
         have hb5 : Below wo.heap.size wo (w4.setCell ⟨wo.heap.size, 4, none⟩ (.slice kp Q.len kc)) := (below_then HB3.out hb4).setCell (Nat.le_refl _) _
         have hok := blk_ready (a := 4) (l := 0) (t := ⟨#[]⟩) (i := I) (k := Q) HO.out hzw hb5 hi5 hk5
         have hszs : (w4.setCell ⟨wo.heap.size, 4, none⟩ (.slice kp Q.len kc)).heap.size = w4.heap.size := by simp
         rw [World.size_alloc, hszs] at hok
         have HOK := Lib.hid hok
         clear hok hks hb4 hi5 hk5 hb5 HC2 K4
         go_wp2_with (at_builtin; go_must (refine append_shp blsS tyB _ rfl _ _ rfl HOK.out.1 rfl HOK.out.2.1 rfl (by show (D.len + 1) * 81 ≤ _; omega) (by rw [World.size_alloc, hszs]; exact HOK.out.2.2.1) ?_); intro v' w5 hown' hgrow hbel hkd)
         have hbn := hbel w (below_then HB.out HOK.out.2.2.2)
         have HOW5 := Lib.hid hown'
         clear hgrow hbel hkd hown'
         go_wp2_with fail
         go_roundg (n - i)
         case measure => omega
         case rel => exact ⟨k, D.app (.cons 4 0 ⟨#[]⟩ I Q .nil), rfl, hKn, by omega, HD2.out, by rw [Bls.len_app]; show D.len + 1 ≤ _; omega, hbn, HOW5.out⟩
  ·have hie : i = n := by omega
   subst hie
   have g1 : decide (i < i) = false := by simp
   obtain ⟨p', c', hvv⟩ := hown.form
   have hDD : D = IT d (IM l) := by
    rw [← hD, List.drop_eq_nil_of_le (by rw [← HN.out]; exact Nat.le_refl _)]
    show D = D.app (IT d [])
    rw [IT_nil, Bls.app_nil]
   have h3 := hown.sl
   rw [hvv] at h3
   subst hvv
   have h4 := blsS.sl_on h3 (q' := fun k => w.heap.size ≤ k) (Kept.mono fun k hk _ => by rcases hk with h | h; exact h.elim; exact h)
   have H4 := Lib.hid h4
   have HDD := Lib.hid hDD
   clear hown hD h3 h4 hDD
   go_wp2_with fail
   go_ret
   exact ⟨p', c', by rw [← HDD.out]; rfl, by rw [← HDD.out]; exact H4.out, hb⟩
theorem rall : ∀ N, RItemsR N := by
 intro N
 induction N using Nat.strongRecOn with
 | _ N ih => exact ritems_step N fun M hM => rlists_step M fun K hK => ih K (by omega)
theorem rlists_any : ∀ N, RListsR N := fun N => rlists_step N fun M _ => rall M
end Go.Proofs.YthieinfonomeeaaGreatDoor
