/-
  The claim's own texts, packed. Conditions: those typed in each theorem.
-/
import Derived.Test.YthieinfonomeeaaGreatDoorZAap
import Derived.Test.YthieinfonomeeaaGreatDoorZAac
import Derived.Test.YthieinfonomeeaaGreatDoorZAag
import Derived.BigQuiet
import Derived.Test.YthieinfonomeeaaGreatDoorZAal
import Derived.Test.YthieinfonomeeaaGreatDoorZAai
namespace Go.Proofs.YthieinfonomeeaaGreatDoor
open Go.RowKit Tit Inl
set_option linter.unusedVariables false
attribute [local go_sem ↓] Go.wp_at_zero Go.wp_at_succ
theorem u8_wrap (N : Nat) (h : N ≤ 255) : IntKind.u8.wrap (N : Int) = (N : Int) := by
 have e : ((N : Int) % 256) = N := Int.emod_eq_of_lt (by omega) (by omega)
 have s : IntKind.u8.signed = false := rfl
 unfold IntKind.wrap
 simp [IntKind.bits, s, e]
def entV : Option (UInt8 × Nat) → Value
 | some (x, n) => .tuple #[.int .u8 (x.toNat : Int), .int .i64 n]
 | none => .tuple #[.int .u8 0, .int .i64 0]
theorem ent_first (l : List UInt8) (h : Lib.hasPrefix l eLt = true) : ent l = some (60, 4) := by unfold ent; rw [if_pos h]
theorem ent_second (l : List UInt8) (h0 : Lib.hasPrefix l eLt = false) (h : Lib.hasPrefix l eGt = true) : ent l = some (62, 4) := by unfold ent; rw [if_neg (by simp [h0]), if_pos h]
theorem ent_third (l : List UInt8) (h0 : Lib.hasPrefix l eLt = false) (h1 : Lib.hasPrefix l eGt = false) (h : Lib.hasPrefix l eAmp = true) : ent l = some (38, 5) := by unfold ent; rw [if_neg (by simp [h0]), if_neg (by simp [h1]), if_pos h]
theorem ent_fourth (l : List UInt8) (h0 : Lib.hasPrefix l eLt = false) (h1 : Lib.hasPrefix l eGt = false) (h2 : Lib.hasPrefix l eAmp = false) (h : Lib.hasPrefix l eQuot = true) : ent l = some (34, 6) := by unfold ent; rw [if_neg (by simp [h0]), if_neg (by simp [h1]), if_neg (by simp [h2]), if_pos h]
theorem ent_rest (l : List UInt8) (h0 : Lib.hasPrefix l eLt = false) (h1 : Lib.hasPrefix l eGt = false) (h2 : Lib.hasPrefix l eAmp = false) (h3 : Lib.hasPrefix l eQuot = false) : ent l = if Lib.hasPrefix l [38, 35] then entN (l.drop 2) else none := by unfold ent; rw [if_neg (by simp [h0]), if_neg (by simp [h1]), if_neg (by simp [h2]), if_neg (by simp [h3])]
set_option maxRecDepth 10000 in
set_option maxHeartbeats 4000000 in
theorem rentity_any (s : ByteArray) (i : Nat) (w : World) (hs : s.size ≤ 100000000) (hi : i ≤ s.size) : Calls Tryz.prog 112 #[.string s, .int .i64 i] w fun e w' => e = .returned (entV (ent (s.data.toList.drop i))) ∧ Below w.heap.size w w' := by
 have hz : s.data.toList.length = s.size := by simp
 have hAT := fun t W (ht : ByteArray.size t ≤ 1000000000) => at_any s t i W (by omega) ht hi
 obtain ⟨l, hl⟩ : ∃ l, l = s.data.toList.drop i := ⟨_, rfl⟩
 rw [← hl] at hAT ⊢
 have hll : l.length = s.size - i := by rw [hl, List.length_drop, hz]
 have hK := Known.made w 9 #[.string ⟨#[38, 108, 116, 59]⟩, .string ⟨#[38, 103, 116, 59]⟩, .string ⟨#[38, 97, 109, 112, 59]⟩, .string ⟨#[38, 113, 117, 111, 116, 59]⟩]
 have hb0 := below_new0 w (.cells #[.string ⟨#[38, 108, 116, 59]⟩, .string ⟨#[38, 103, 116, 59]⟩, .string ⟨#[38, 97, 109, 112, 59]⟩, .string ⟨#[38, 113, 117, 111, 116, 59]⟩] 9)
 obtain ⟨c0, c1, c2, c3⟩ := hK.four
 have kl := hK.lt
 have hlp := fun W => hAT ⟨eLt.toArray⟩ W (by decide)
 have hgp := fun W => hAT ⟨eGt.toArray⟩ W (by decide)
 have hap := fun W => hAT ⟨eAmp.toArray⟩ W (by decide)
 have hqp := fun W => hAT ⟨eQuot.toArray⟩ W (by decide)
 have hnp := fun W => hAT ⟨#[38, 35]⟩ W (by decide)
 have e0 : ∀ x : List UInt8, (⟨x.toArray⟩ : ByteArray).data.toList = x := fun _ => rfl
 have en : (⟨#[38, 35]⟩ : ByteArray).data.toList = [38, 35] := rfl
 rw [e0] at hlp hgp hap hqp
 rw [en] at hnp
 have h1 := ent_first l
 have h2 := ent_second l
 have h3 := ent_third l
 have h4 := ent_fourth l
 have h5 := ent_rest l
 generalize hb1 : Lib.hasPrefix l eLt = b1 at hlp h1 h2 h3 h4 h5
 generalize hb2 : Lib.hasPrefix l eGt = b2 at hgp h2 h3 h4 h5
 generalize hb3 : Lib.hasPrefix l eAmp = b3 at hap h3 h4 h5
 generalize hb4 : Lib.hasPrefix l eQuot = b4 at hqp h4 h5
 generalize hb5 : Lib.hasPrefix l [38, 35] = b5 at hnp h5
 have HP1 := Lib.hid hlp
 have HP2 := Lib.hid hgp
 have HP3 := Lib.hid hap
 have HP4 := Lib.hid hqp
 have HP5 := Lib.hid hnp
 have H1 := Lib.hid h1
 have H2 := Lib.hid h2
 have H3 := Lib.hid h3
 have H4 := Lib.hid h4
 have H5 := Lib.hid h5
 have HB0 := Lib.hid hb0
 have hbp := hp_le (s := l) (p := [38, 35])
 rw [hb5] at hbp
 have HBP := Lib.hid hbp
 have HL := Lib.hid hl
 clear hAT hlp hgp hap hqp hnp h1 h2 h3 h4 h5 hb0 hb1 hb2 hb3 hb4 hb5 e0 en hK hl hbp
 go_enter Tryz.func112, Tryz.ntmps112
 go_wp2_with fail
 obtain ⟨W0, hW0⟩ : ∃ W0, W0 = w.alloc (.cells #[.string ⟨#[38, 108, 116, 59]⟩, .string ⟨#[38, 103, 116, 59]⟩, .string ⟨#[38, 97, 109, 112, 59]⟩, .string ⟨#[38, 113, 117, 111, 116, 59]⟩] 9) := ⟨_, rfl⟩
 rw [← hW0] at HB0 c0 c1 c2 c3 kl ⊢
 clear hW0
 go_loopg [7] 5 (fun g s7 wr => ∃ k : Nat, k ≤ 4 ∧ 4 < k + g ∧ s7 = .int .i64 k ∧ (1 ≤ k → b1 = false) ∧ (2 ≤ k → b2 = false) ∧ (3 ≤ k → b3 = false) ∧ (4 ≤ k → b4 = false) ∧ W0 = wr)
 case atStart => exact ⟨0, by omega, by omega, rfl, by omega, by omega, by omega, by omega, rfl⟩
 case round =>
  obtain ⟨k, hk4, hkg, rfl, f1, f2, f3, f4, rfl⟩ := hrel
  have hc : k = 0 ∨ k = 1 ∨ k = 2 ∨ k = 3 ∨ k = 4 := by omega
  rcases hc with rfl | rfl | rfl | rfl | rfl
  ·have F1 := Lib.hid f1
   have F2 := Lib.hid f2
   have F3 := Lib.hid f3
   have F4 := Lib.hid f4
   clear f1 f2 f3 f4
   go_wp2_with fail
   refine (HP1.out _).mono ?_
   rintro e w1 ⟨rfl, rfl⟩
   cases b1 with
   | true =>
     have HE := Lib.hid (H1.out rfl)
     go_wp2_with fail
     go_quiet (fail)
     go_wp2_with fail
     go_ret2
     exact ⟨by rw [HE.out]; rfl, below_drewN HB0.out _⟩
   | false =>
     go_wp2_with fail
     go_roundg 4
     case measure => omega
     case rel => exact ⟨1, by omega, by omega, rfl, fun _ => (by first | rfl | trivial), by omega, by omega, by omega, rfl⟩
  ·have F1 := Lib.hid f1
   have F2 := Lib.hid f2
   have F3 := Lib.hid f3
   have F4 := Lib.hid f4
   clear f1 f2 f3 f4
   go_wp2_with fail
   refine (HP2.out _).mono ?_
   rintro e w1 ⟨rfl, rfl⟩
   cases b2 with
   | true =>
     have HE := Lib.hid (H2.out (F1.out (by decide)) rfl)
     go_wp2_with fail
     go_quiet (fail)
     go_wp2_with fail
     go_ret2
     exact ⟨by rw [HE.out]; rfl, below_drewN HB0.out _⟩
   | false =>
     go_wp2_with fail
     go_roundg 3
     case measure => omega
     case rel => exact ⟨2, by omega, by omega, rfl, fun _ => F1.out (by decide), fun _ => (by first | rfl | trivial), by omega, by omega, rfl⟩
  ·have F1 := Lib.hid f1
   have F2 := Lib.hid f2
   have F3 := Lib.hid f3
   have F4 := Lib.hid f4
   clear f1 f2 f3 f4
   go_wp2_with fail
   refine (HP3.out _).mono ?_
   rintro e w1 ⟨rfl, rfl⟩
   cases b3 with
   | true =>
     have HE := Lib.hid (H3.out (F1.out (by decide)) (F2.out (by decide)) rfl)
     go_wp2_with fail
     go_quiet (fail)
     go_wp2_with fail
     go_ret2
     exact ⟨by rw [HE.out]; rfl, below_drewN HB0.out _⟩
   | false =>
     go_wp2_with fail
     go_roundg 2
     case measure => omega
     case rel => exact ⟨3, by omega, by omega, rfl, fun _ => F1.out (by decide), fun _ => F2.out (by decide), fun _ => (by first | rfl | trivial), by omega, rfl⟩
  ·have F1 := Lib.hid f1
   have F2 := Lib.hid f2
   have F3 := Lib.hid f3
   have F4 := Lib.hid f4
   clear f1 f2 f3 f4
   go_wp2_with fail
   refine (HP4.out _).mono ?_
   rintro e w1 ⟨rfl, rfl⟩
   cases b4 with
   | true =>
     have HE := Lib.hid (H4.out (F1.out (by decide)) (F2.out (by decide)) (F3.out (by decide)) rfl)
     go_wp2_with fail
     go_quiet (fail)
     go_wp2_with fail
     go_ret2
     exact ⟨by rw [HE.out]; rfl, below_drewN HB0.out _⟩
   | false =>
     go_wp2_with fail
     go_roundg 1
     case measure => omega
     case rel => exact ⟨4, by omega, by omega, rfl, fun _ => F1.out (by decide), fun _ => F2.out (by decide), fun _ => F3.out (by decide), fun _ => (by first | rfl | trivial), rfl⟩
  ·have hen := H5.out (f1 (by decide)) (f2 (by decide)) (f3 (by decide)) (f4 (by decide))
   have HEN := Lib.hid hen
   clear hen f1 f2 f3 f4 H1 H2 H3 H4 H5 HP1 HP2 HP3 HP4 c0 c1 c2 c3
   go_wp2_with fail
   refine (HP5.out _).mono ?_
   rintro e w1 ⟨rfl, rfl⟩
   cases b5 with
   | false =>
     have HE : Hid (ent l = none) := Lib.hid (by rw [HEN.out]; rfl)
     go_wp2_with fail
     go_ret2
     exact ⟨by rw [HE.out]; rfl, HB0.out⟩
   | true =>
     have hl2 : 2 ≤ l.length := HBP.out (by first | rfl | trivial)
     obtain ⟨r, hr⟩ : ∃ r, r = l.drop 2 := ⟨_, rfl⟩
     have HE : Hid (ent l = entN r) := Lib.hid (by rw [HEN.out, hr]; rfl)
     have hrl : r.length = s.size - i - 2 := by rw [hr, List.length_drop, hll]
     have hrb : ∀ m (h : i + 2 + m < s.size), ∃ h2 : m < r.length, s[i + 2 + m] = r[m] := by
      intro m h
      refine ⟨by omega, ?_⟩
      obtain ⟨h3, e⟩ := byte_at s (i + 2 + m) h
      subst hr
      rw [e]
      simp only [List.getElem_drop, HL.out]
      congr 1
      omega
     have HRB := Lib.hid hrb
     clear hrb hr HEN HP5 HBP HL
     go_wp2_with fail
     go_loopg [8, 9] 4 (fun g s8 s9 wr => ∃ k m : Nat, k = i + 2 + m ∧ m ≤ 3 ∧ 3 < m + g ∧ k ≤ s.size ∧ s8 = .int .i64 (num (r.take m) : Nat) ∧ s9 = .int .i64 k ∧ (∀ c ∈ r.take m, dg c = true) ∧ W0 = wr)
     case atStart => exact ⟨i + 2, 0, rfl, by omega, by omega, by omega, rfl, by go_num, by simp, rfl⟩
     case round =>
      obtain ⟨k, m, hkm, hm3, hmg, hks, rfl, rfl, hall, rfl⟩ := hrel
      have hnb := num_le (r.take m) hall
      have hpw : 10 ^ (r.take m).length ≤ 1000 := by
       have : (r.take m).length ≤ 3 := by rw [List.length_take]; omega
       exact Nat.le_trans (Nat.pow_le_pow_right (by decide) this) (by decide)
      obtain ⟨N, hN⟩ : ∃ N, N = num (r.take m) := ⟨_, rfl⟩
      rw [← hN] at hnb ⊢
      have hNb : N < 1000 := by omega
      have HALL := Lib.hid hall
      have HN := Lib.hid hN
      have hrbm := HRB.out m
      rw [← hkm] at hrbm
      have HRM := Lib.hid hrbm
      obtain ⟨b, hb⟩ : ∃ b, b = (decide (m < 3) && (if h : k < s.size then dg s[k] else false)) := ⟨_, rfl⟩
      have HB := Lib.hid hb
      have HKM := Lib.hid hkm
      clear hall hN hrbm hb hnb hpw
      go_upto_region 10 with fail
      go_cut [58] from 37 to 58 (fun s58 wc => s58 = .bool b ∧ W0 = wc)
      case first =>
       by_cases hin : k < s.size
       ·have g0 : decide (k < s.size) = true := decide_eq_true hin
        by_cases h3 : m < 3
        ·have g1 : decide ((k : Int) < (i : Int) + 5) = true := decide_eq_true (by omega)
         have hb := HB.out
         rw [dif_pos hin, decide_eq_true h3, Bool.true_and, dg_eq] at hb
         obtain ⟨x, hx⟩ : ∃ x, s[k].toNat = x := ⟨_, rfl⟩
         rw [hx] at hb
         have HBB := Lib.hid hb
         clear hb hkm h3
         by_cases c1 : 48 ≤ x
         ·have g2 : decide ((48 : Int) ≤ (x : Int)) = true := decide_eq_true (by omega)
          have hbt : decide ((x : Int) ≤ 57) = b := by rw [HBB.out, Bool.eq_iff_iff]; simp [c1]; omega
          have HBT := Lib.hid hbt
          clear c1 hbt
          go_wp2_with fail
          go_meet
          case rel => exact ⟨by rw [HBT.out], rfl⟩
         ·have g2 : decide ((48 : Int) ≤ (x : Int)) = false := decide_eq_false (by omega)
          have hbt : b = false := by rw [HBB.out]; simp [c1]
          subst hbt
          clear c1
          go_wp2_with fail
          go_meet
          case rel => exact ⟨rfl, rfl⟩
        ·have g1 : decide ((k : Int) < (i : Int) + 5) = false := decide_eq_false (by omega)
         have hbt : b = false := by rw [HB.out]; simp [h3]
         subst hbt
         clear hkm h3
         go_wp2_with fail
         go_meet
         case rel => exact ⟨rfl, rfl⟩
       ·have g0 : decide (k < s.size) = false := decide_eq_false hin
        have hbt : b = false := by rw [HB.out, dif_neg hin]; simp
        subst hbt
        clear hkm
        go_wp2_with fail
        go_meet
        case rel => exact ⟨rfl, rfl⟩
      case rest =>
       obtain ⟨rfl, rfl⟩ := hcut
       cases b with
       | true =>
         have hb := HB.out
         have hm : m < 3 := by
          by_cases h : m < 3
          ·exact h
          ·rw [decide_eq_false h] at hb; cases hb
         have hin : k < s.size := by
          by_cases h : k < s.size
          ·exact h
          ·rw [dif_neg h] at hb; simp at hb
         rw [decide_eq_true hm, dif_pos hin, Bool.true_and] at hb
         obtain ⟨hmr, hbr⟩ := HRM.out hin
         have hd := hb.symm
         rw [dg_eq, Bool.and_eq_true, decide_eq_true_eq, decide_eq_true_eq] at hd
         obtain ⟨d1, d2⟩ := hd
         have htk : r.take (m + 1) = r.take m ++ [s[k]] := by rw [List.take_add_one, List.getElem?_eq_getElem hmr, hbr]; rfl
         have hall2 : ∀ c ∈ r.take (m + 1), dg c = true := by
          intro c hc
          rw [htk] at hc
          rcases List.mem_append.1 hc with hc | hc
          ·exact HALL.out c hc
          ·rw [List.mem_singleton.1 hc]; exact hb.symm
         have hnum : num (r.take (m + 1)) = N * 10 + (s[k].toNat - 48) := by rw [htk, num_snoc, ← HN.out]
         obtain ⟨x, hx⟩ : ∃ x, s[k].toNat = x := ⟨_, rfl⟩
         rw [hx] at d1 d2 hnum
         have hwr : IntKind.u8.wrap ((x : Int) - 48) = (x : Int) - 48 := by
          unfold IntKind.wrap
          simp [IntKind.bits]
          omega
         have HA2 := Lib.hid hall2
         have HNU := Lib.hid hnum
         clear hb hmr hbr htk hall2 hnum hkm
         go_wp2_with fail
         go_roundg (3 - m)
         case measure => omega
         case rel => exact ⟨k + 1, m + 1, by rw [HKM.out]; omega, by omega, by omega, by omega, by rw [HNU.out]; go_num, by go_num, HA2.out, rfl⟩
       | false =>
         have hlen : m ≤ r.length := by omega
         have hread := entN_read r m hm3 hlen HALL.out (fun h3 hmr => by
          have hin : k < s.size := by omega
          have hb := HB.out
          rw [decide_eq_true h3, dif_pos hin, Bool.true_and] at hb
          obtain ⟨_, hbr⟩ := HRM.out hin
          rw [← hbr]; exact hb.symm)
         rw [← HN.out] at hread
         have h59 : ∀ h : k < s.size, (r[m]? = some 59 ↔ s[k].toNat = 59) := fun h => by
          obtain ⟨h2, hbr⟩ := HRM.out h
          have a1 : s[k] = 59 ↔ s[k].toNat = 59 := u8_eq (by decide)
          rw [List.getElem?_eq_getElem h2, ← hbr, ← a1]
          simp
         have hnone : s.size ≤ k → r[m]? ≠ some 59 := fun h e => by
          rw [List.getElem?_eq_none (by omega)] at e; cases e
         obtain ⟨bd, hbd⟩ : ∃ bd, bd = !(decide (1 ≤ m ∧ r[m]? = some 59 ∧ 1 ≤ N ∧ N ≤ 255)) := ⟨_, rfl⟩
         have HBD := Lib.hid hbd
         have HREAD := Lib.hid hread
         have H59 := Lib.hid h59
         have HNO := Lib.hid hnone
         clear hlen hread h59 hnone hbd HB HALL HN HRM
         go_upto_region 13 with fail
         go_cut [92] from 69 to 92 (fun s92 wc => s92 = .bool bd ∧ W0 = wc)
         case first =>
          by_cases c0 : m = 0
          ·have g1 : ((k : Int) == (i : Int) + 2) = true := by simp; omega
           have hbt : bd = true := by rw [HBD.out]; simp [c0]
           subst hbt
           clear c0 hkm
           go_wp2_with fail
           go_meet
           case rel => exact ⟨rfl, rfl⟩
          have g1 : ((k : Int) == (i : Int) + 2) = false := by simp; omega
          by_cases c1 : s.size ≤ k
          ·have g2 : decide (s.size ≤ k) = true := decide_eq_true c1
           have hbt : bd = true := by rw [HBD.out]; simp [HNO.out c1]
           subst hbt
           clear c0 hkm
           go_wp2_with fail
           go_meet
           case rel => exact ⟨rfl, rfl⟩
          have g2 : decide (s.size ≤ k) = false := decide_eq_false c1
          have hin : k < s.size := by omega
          have h59 := H59.out hin
          obtain ⟨x, hx⟩ : ∃ x, s[k].toNat = x := ⟨_, rfl⟩
          rw [hx] at h59
          have H5 := Lib.hid h59
          clear h59 hkm c1
          by_cases c2 : x = 59
          ·have g3 : ((x : Int) != 59) = false := by simp; omega
           have h5 := H5.out.2 c2
           have hbv : bd = !(decide (1 ≤ N) && decide (N ≤ 255)) := by
            rw [HBD.out, Bool.eq_iff_iff]; simp [h5]; omega
           have HBV := Lib.hid hbv
           clear c0 c2 h5 hbv
           by_cases c3 : N < 1
           ·have g4 : decide ((N : Int) < 1) = true := decide_eq_true (by omega)
            have hbt : bd = true := by rw [HBV.out, decide_eq_false (show ¬ 1 ≤ N by omega)]; rfl
            subst hbt
            clear c3
            go_wp2_with fail
            go_meet
            case rel => exact ⟨rfl, rfl⟩
           ·have g4 : decide ((N : Int) < 1) = false := decide_eq_false (by omega)
            have hbt : decide ((255 : Int) < (N : Int)) = bd := by
             rw [HBV.out, decide_eq_true (show 1 ≤ N by omega), Bool.eq_iff_iff]; simp; omega
            have HBT := Lib.hid hbt
            clear c3 hbt
            go_wp2_with fail
            go_meet
            case rel => exact ⟨by rw [HBT.out], rfl⟩
          ·have g3 : ((x : Int) != 59) = true := by simp; omega
           have hbt : bd = true := by
            rw [HBD.out]
            have : ¬ r[m]? = some 59 := fun e => c2 (H5.out.1 e)
            simp [this]
           subst hbt
           clear c0 c2
           go_wp2_with fail
           go_meet
           case rel => exact ⟨rfl, rfl⟩
         case rest =>
          obtain ⟨rfl, rfl⟩ := hcut
          cases bd with
          | true =>
            have HE2 : Hid (ent l = none) := Lib.hid (by
             rw [HE.out, HREAD.out, if_neg (fun hc => by have := HBD.out; rw [decide_eq_true hc] at this; cases this)])
            go_wp2_with fail
            go_ret2
            exact ⟨by rw [HE2.out]; rfl, HB0.out⟩
          | false =>
            have hc : 1 ≤ m ∧ r[m]? = some 59 ∧ 1 ≤ N ∧ N ≤ 255 := by have := HBD.out; simpa using this.symm
            have HE2 : Hid (ent l = some (UInt8.ofNat N, m + 3)) := Lib.hid (by rw [HE.out, HREAD.out, if_pos hc])
            have hN255 : N ≤ 255 := hc.2.2.2
            have hwr : IntKind.u8.wrap (N : Int) = (N : Int) := u8_wrap N hN255
            have hof : ((UInt8.ofNat N).toNat : Int) = (N : Int) := by
             rw [UInt8.toNat_ofNat_of_lt' (by show N < 256; omega)]
            have HOF := Lib.hid hof
            clear hc hof
            go_wp2_with fail
            go_ret2
            refine ⟨?_, HB0.out⟩
            rw [HE2.out]
            show Ending.returned (Value.tuple #[.int .u8 (N : Int), .int .i64 ((i : Int) + 2 + (m : Int) + 1 - (i : Int))]) = Ending.returned (Value.tuple #[.int .u8 ((UInt8.ofNat N).toNat : Int), .int .i64 ((m + 3 : Nat) : Int)])
            rw [HOF.out, show (i : Int) + 2 + (m : Int) + 1 - (i : Int) = ((m + 3 : Nat) : Int) by omega]
end Go.Proofs.YthieinfonomeeaaGreatDoor
namespace Go.Proofs.YthieinfonomeeaaGreatDoor
open Go.RowKit Tit Inl
set_option linter.unusedVariables false
attribute [local go_sem ↓] Go.wp_at_zero Go.wp_at_succ
set_option maxRecDepth 10000 in
set_option maxHeartbeats 2000000 in
theorem rdecode_any (s : ByteArray) (w : World) (hs : s.size ≤ 100000000) : Calls Tryz.prog 78 #[.string s] w fun e w' => e = .returned (.string ⟨(dec s.data.toList).toArray⟩) ∧ Below w.heap.size w w' := by
 have hz : s.data.toList.length = s.size := by simp
 have hEN := fun i W (hi : i ≤ s.size) => rentity_any s i W hs hi
 obtain ⟨l, hl⟩ : ∃ l, l = s.data.toList := ⟨_, rfl⟩
 have hdb := drop_byte s
 rw [← hl] at hdb hz hEN ⊢
 have HEN := Lib.hid hEN
 have HDB := Lib.hid hdb
 have HZ := Lib.hid hz
 clear hdb hl hEN hz
 go_enter Tryz.func78, Tryz.ntmps78
 go_wp2_with fail
 go_loopg [3, 4, 5, 6] (s.size + 1) (fun g s3 s4 s5 s6 wr => ∃ (i : Nat) (o : List UInt8), i ≤ s.size ∧ s.size < i + g ∧ s4 = .int .i64 i ∧ BOwn w.heap.size wr s3 o ∧ o.length ≤ i ∧ dec l = o ++ dec (l.drop i) ∧ Below w.heap.size w wr)
 case atStart => exact ⟨0, [], by omega, by omega, rfl, BOwn.nil _ _, by simp, rfl, Below.refl _ _⟩
 case round =>
  obtain ⟨i, o, hi, hg, rfl, hown, hoi, hq, hbw⟩ := hrel
  have HQ := Lib.hid hq
  have HOWN := Lib.hid hown
  have HBW := Lib.hid hbw
  have hbz := hbw.size
  clear hq hown hbw
  by_cases hin : i < s.size
  ·have g1 : decide (i < s.size) = true := decide_eq_true hin
   have hC := HEN.out i wr hi
   have hdi := HDB.out i hin
   obtain ⟨E, hE⟩ : ∃ E, E = ent (l.drop i) := ⟨_, rfl⟩
   rw [← hE] at hC
   have HE := Lib.hid hE
   have HC := Lib.hid hC
   have HDI := Lib.hid hdi
   clear hC hE hdi
   cases E with
   | some y =>
     obtain ⟨x, n⟩ := y
     have hen := ent_len HE.out.symm
     rw [List.length_drop, HZ.out] at hen
     have hds := dec_some HE.out.symm
     rw [List.drop_drop] at hds
     have HDS := Lib.hid hds
     have g2 : decide (0 < n) = true := decide_eq_true (by omega)
     clear hds
     go_wp2_with fail
     refine HC.out.mono ?_
     rintro e w1 ⟨rfl, hb1⟩
     have hbz1 := hb1.size
     have HB1 := Lib.hid (HBW.out.trans (hb1.mono hbz))
     have HO1 := Lib.hid (HOWN.out.below hb1)
     have HOA := Lib.hid (HO1.out.below (below_new0 w1 (.cells #[.int .u8 (x.toNat : Int)] 5)))
     have HSB := Lib.hid (src_byte w1 5 x)
     clear hb1
     simp only [entV]
     go_wp2_with (at_builtin; go_must (refine append_bytes _ rfl _ _ rfl HOA.out rfl HSB.out rfl (by simp; omega) (by simp; omega) ?_); intro v' w3 hown3 hgr hat)
     have HOW3 := Lib.hid hown3
     have HB3 := Lib.hid (below_byte (HB1.out.trans ((below_new0 w1 _).mono (by omega))) HOA.out hgr (by simp; omega))
     clear hown3 hgr hat
     go_wp2_with fail
     go_roundg (s.size - i)
     case measure => omega
     case rel => exact ⟨i + n, o ++ [x], by omega, by omega, by go_num, HOW3.out, by simp; omega, by rw [HQ.out, HDS.out]; simp, HB3.out⟩
   | none =>
     have hds := HDI.out
     have hnn := HE.out
     rw [hds] at hnn
     have hdn := dec_none hnn.symm
     have HDN := Lib.hid hdn
     clear hds hnn hdn
     go_wp2_with fail
     refine HC.out.mono ?_
     rintro e w1 ⟨rfl, hb1⟩
     have hbz1 := hb1.size
     have HB1 := Lib.hid (HBW.out.trans (hb1.mono hbz))
     have HO1 := Lib.hid (HOWN.out.below hb1)
     have HOA := Lib.hid (HO1.out.below (below_new0 w1 (.cells #[.int .u8 (s[i].toNat : Int)] 5)))
     have HSB := Lib.hid (src_byte w1 5 s[i])
     clear hb1
     simp only [entV]
     go_wp2_with (at_builtin; go_must (refine append_bytes _ rfl _ _ rfl HOA.out rfl HSB.out rfl (by simp; omega) (by simp; omega) ?_); intro v' w3 hown3 hgr hat)
     have HOW3 := Lib.hid hown3
     have HB3 := Lib.hid (below_byte (HB1.out.trans ((below_new0 w1 _).mono (by omega))) HOA.out hgr (by simp; omega))
     clear hown3 hgr hat
     go_wp2_with fail
     go_roundg (s.size - i)
     case measure => omega
     case rel => exact ⟨i + 1, o ++ [s[i]], by omega, by omega, by go_num, HOW3.out, by simp; omega, by rw [HQ.out, HDI.out, HDN.out]; simp, HB3.out⟩
  ·have g1 : decide (i < s.size) = false := decide_eq_false hin
   have hout : dec l = o := by rw [HQ.out, List.drop_eq_nil_of_le (by rw [HZ.out]; omega), dec_nil, List.append_nil]
   have HOUT := Lib.hid hout
   have htx := HOWN.out.text
   clear hout
   go_wp2_with fail
   go_ret
   refine ⟨?_, HBW.out⟩
   rw [HOUT.out]
   rfl
end Go.Proofs.YthieinfonomeeaaGreatDoor
namespace Go.Proofs.YthieinfonomeeaaGreatDoor
open Go.RowKit Doc Tit Inl
set_option linter.unusedVariables false
attribute [local go_sem ↓] Go.wp_at_zero Go.wp_at_succ
set_option maxRecDepth 10000 in
set_option maxHeartbeats 4000000 in
theorem radd_any (B g : Nat) (hBg : B ≤ g) (w : World) (A : Ops) (k : Int) (l : Ins) (t : Bool) (a : Int) (tx : ByteArray) (sp : Int) (nm an : ByteArray) (kp : Option Addr) (kn kc : Nat) (kids : Ins)
  (hR : RS B g w (A ++ [(k, l)]) t) (hK : insS.sl (kg B g) w (.slice kp kn kc) kids) (hA : A.length ≤ 1000) (hl : l.len ≤ 1000000000) :
  Calls Tryz.prog 110 #[.pointer (some ⟨g, 0, none⟩), .agg #[.int .i64 a, .string tx, .int .i64 sp, .string nm, .string an, .slice kp kn kc]] w fun e w' =>
   e = .returned (.tuple #[]) ∧ RS B g w' (A ++ [(k, l.app (.cons a tx sp nm an kids .nil))]) false ∧ Step g w w' := by
 have hgl := hR.lt
 obtain ⟨p, c, hKn, hS⟩ := hR
 obtain ⟨b, o, lp, lc, rfl, hqb, hbl, hn, hnc, hcm, c0, c1, hL⟩ := stk_at hS
 have hn' : (A ++ [(k, l)]).length = A.length + 1 := by simp
 rw [hn'] at hS hKn
 obtain ⟨m, hm⟩ : ∃ m, m = A.length := ⟨_, rfl⟩
 rw [← hm] at c0 c1 hA hS hKn
 obtain ⟨d0, d1⟩ := hKn.two
 have f0 := hKn.free 0
 have f1 := hKn.free 1
 have hww := hKn.lt
 have hb1 := below_new0 w (.cells #[.int .i64 a, .string tx, .int .i64 sp, .string nm, .string an, .slice kp kn kc] 56)
 have hX := Known.made w 56 #[.int .i64 a, .string tx, .int .i64 sp, .string nm, .string an, .slice kp kn kc]
 have hKn1 := hKn.on hb1
 obtain ⟨q0, hq0⟩ : ∃ q0 : Nat → Prop, q0 = fun k => kg B g k ∧ k < w.heap.size + 1 := ⟨_, rfl⟩
 have hqu : ∀ k, kg B g k → k < (w.alloc (.cells #[.int .i64 a, .string tx, .int .i64 sp, .string nm, .string an, .slice kp kn kc] 56)).heap.size → q0 k := fun k h1 h2 => by
  rw [World.size_alloc] at h2; rw [hq0]; exact ⟨h1, h2⟩
 have hS1 := stkS.sl_on (stkS.sl_on hS (Kept.below hb1)) (Kept.mono hqu)
 have hK1 := insS.sl_on (insS.sl_on hK (Kept.below hb1)) (Kept.mono hqu)
 have hnn : stkS.len (A ++ [(k, l)]) = m + 1 := by rw [stk_len, List.length_append, ← hm]; rfl
 have hsrc := Shp.src_of (S := stkS) (stkS.sl_on hS1 (Kept.mono (q' := Shp.kind q0 (w.heap.size + 1) (.slice none 0 0)) fun k hk _ => ⟨.inl hk, fun e => by cases e⟩))
 have HSRC := Lib.hid hsrc
 have HNN := Lib.hid hnn
 have HB1 := Lib.hid hb1
 have HX := Lib.hid hX
 have HKN1 := Lib.hid hKn1
 have HK1 := Lib.hid hK1
 have HQ0 := Lib.hid hq0
 have HM := Lib.hid hm
 have HKN := Lib.hid hKn
 clear hb1 hX hKn1 hS1 hK1 hq0 hqu hm hKn hS hL hK hn hn' c0 c1 hsrc hnn
 go_enter Tryz.func110, Tryz.ntmps110
 go_wp2_with (at_builtin; go_must (refine append_shp stkS tyO _ rfl _ _ rfl (Shp.own.nil (q := q0) (B := w.heap.size + 1)) rfl HSRC.out rfl (by rw [HNN.out]; show (0 + (m + 1)) * 33 ≤ _; omega) (by simp) ?_); intro v2 w2 hown2 hgr2 hbel2 hkd2)
 have e0 : stkS.app stkS.nil (A ++ [(k, l)]) = A ++ [(k, l)] := rfl
 rw [e0] at hown2
 have hb2 := hbel2 _ (Below.refl _ _)
 obtain ⟨r, oc, rfl, hBr, hrl, hob⟩ := stk_form (A := A) (C := []) (x := (k, l)) hown2
 rw [← HM.out, List.length_nil, Nat.zero_add] at hown2 ⊢
 obtain ⟨lp', lc', c0, c1, hL2⟩ := stk_own_at hown2
 rw [← HM.out] at c0 c1
 obtain ⟨q1, hq1⟩ : ∃ q1 : Nat → Prop, q1 = fun k => (kg B g k ∧ k ≠ r) ∧ k < w2.heap.size := ⟨_, rfl⟩
 have hsz2 := hb2.size
 rw [World.size_alloc] at hsz2
 have hLI : ∀ W, Below w2.heap.size w2 W → insS.sl q1 W (.slice lp' l.len lc') l := fun W hW => by
  rw [hq1]
  refine insS.sl_on (insS.sl_on hL2 (Kept.mono (q' := fun k => kg B g k ∧ k ≠ r) ?_)) (Kept.belowLt hW)
  rintro j ⟨hj, hj2⟩ hlt
  have hjr : j ≠ r := fun e => hj2 (by rw [e]; rfl)
  rw [HQ0.out] at hj
  rcases hj with hj | hj
  ·exact ⟨hj.1, hjr⟩
  ·exact ⟨⟨by omega, by omega⟩, hjr⟩
 have hKI : ∀ W, Below w2.heap.size w2 W → insS.sl q1 W (.slice kp kn kc) kids := fun W hW => by
  rw [hq1]
  have h1 : insS.sl q0 w2 (.slice kp kn kc) kids := insS.sl_on HK1.out (Kept.below (hb2.mono (by simp)))
  refine insS.sl_on (insS.sl_on h1 (Kept.mono (q' := fun k => kg B g k ∧ k ≠ r) ?_)) (Kept.belowLt hW)
  intro j hj hlt
  rw [HQ0.out] at hj
  have := hj.2
  exact ⟨hj.1, by omega⟩
 have hX2 := HX.out.on (hb2.mono (by simp))
 have hfr : w2.frozen? ⟨r, m * 2 + 1, none⟩ = false := by
  obtain ⟨xs, h1, _⟩ := hown2
  rw [HNN.out] at h1
  exact h1.frozenAt _
 have hql : ∀ j, q1 j → j < w2.heap.size := by rw [hq1]; exact fun j h => h.2
 obtain ⟨x0, x1, x2, x3, x4, x5⟩ := hX2.six
 have hxl := hX2.lt
 have HLI := Lib.hid hLI
 have HKI := Lib.hid hKI
 have HX2 := Lib.hid hX2
 have HO2 := Lib.hid hown2
 have HB2 := Lib.hid hb2
 have HQ1 := Lib.hid hq1
 have HQL := Lib.hid hql
 have hgr2l := hgl
 have hi0 : (0 : Int) ≤ (m : Int) := by omega
 have hi1 : (m : Int) < (m : Int) + 1 := by omega
 clear hLI hKI hX2 hown2 hb2 hq1 hgr2 hbel2 hkd2 hL2 e0 hql hob HSRC HNN HB1 HX HK1 d0 d1 f0 f1
 go_region_law (first
  | (refine step_append_shp insS tyI _ (by rfl) _ _ (by rfl) (Shp.own.nil (q := q1) (B := w2.heap.size)) (by rfl) (Shp.src_of (insS.sl_on (HLI.out _ (by first | exact (Below.refl _ _).drew | exact ((Below.refl _ _).alloc (Nat.le_refl _) _).drew)) (Kept.mono (q' := Shp.kind q1 w2.heap.size (.slice none 0 0)) fun k hk _ => ⟨.inl hk, fun e => by cases e⟩))) (by rfl) (by show (0 + l.len) * 89 ≤ _; omega) (by simp) ?_; intro v3 w3 hown3 hgr3 hbel3 hkd3
     have hb3 := hbel3 w2 (by first | exact (Below.refl _ _).drew | exact ((Below.refl _ _).alloc (Nat.le_refl _) _).drew)
     have hX3 := HX2.out.on hb3
     obtain ⟨x0, x1, x2, x3, x4, x5⟩ := hX3.six
     have hxl := hX3.lt
     have hS3 : insS.sl (Shp.kind q1 w2.heap.size v3) w3 (.slice kp kn kc) kids := insS.sl_on (HKI.out _ hb3) (Kept.mono fun k hk _ => kind_new hown3.lt hb3.size HQL.out k (.inl hk))
     try have hN3 := known_grown (g := w2.heap.size) (t := 56) (cs := #[.int .i64 a, .string tx, .int .i64 sp, .string nm, .string an, .slice kp kn kc]) (by exact Known.made w2 _ _) hgr3 (by simp [Value.ownBlock]))
  | (refine step_append_shp insS tyI _ (by rfl) _ _ (by rfl) (hown3.below (below_new0 w3 _)) (by rfl) (src_known (Known.made w3 _ _) (insS.sl_on hS3 (Kept.alloc _))) (by rfl) (by show (l.len + 1) * 89 ≤ _; omega) (by have := hb3.size; simp; omega) ?_; intro v4 w4 hown4 hgr4 hbel4 hkd4
     have hb4 := hbel4 w2 (hb3.trans ((below_new0 w3 _).mono hb3.size))
     have c1 := (hb4.cell (p := ⟨r, m * 2 + 1, none⟩) hrl).trans c1
     have hfr := (hb4.frozen (p := ⟨r, m * 2 + 1, none⟩) hrl).trans hfr
     obtain ⟨p4, n4, rfl⟩ := hown4.form)
  | (refine step_append_shp insS tyI _ (by rfl) _ _ (by rfl) hown3 (by rfl) (src_known hN3 hS3) (by rfl) (by show (l.len + 1) * 89 ≤ _; omega) hb3.size ?_; intro v4 w4 hown4 hgr4 hbel4 hkd4
     have hb4 := hbel4 w2 hb3
     have c1 := (hb4.cell (p := ⟨r, m * 2 + 1, none⟩) hrl).trans c1
     have hfr := (hb4.frozen (p := ⟨r, m * 2 + 1, none⟩) hrl).trans hfr
     obtain ⟨p4, n4, rfl⟩ := hown4.form))
 all_goals
  have hz4 := hb4.size
  have O4 := HO2.out.below hb4
  have hown4 : insS.own 56 q1 w2.heap.size w4 (.slice p4 (insS.len (insS.app (insS.app insS.nil l) (Ins.cons a tx sp nm an kids Ins.nil))) n4) (l.app (.cons a tx sp nm an kids .nil)) := hown4
  have hu : insS.sl (Shp.kind q0 (w.heap.size + 1) (.slice (some ⟨r, 0, none⟩) (m + 1) oc)) w4 (.slice p4 (insS.len (insS.app (insS.app insS.nil l) (Ins.cons a tx sp nm an kids Ins.nil))) n4) (l.app (.cons a tx sp nm an kids .nil)) :=
   insS.sl_on hown4.sl (Kept.mono fun j hj _ => by
    rw [HQ1.out] at hj
    rcases hj with hj | hj
    ·refine ⟨?_, fun e => hj.1.2 (Option.some.inj e).symm⟩
     by_cases e : j < w.heap.size + 1
     ·rw [HQ0.out]; exact .inl ⟨hj.1.1, e⟩
     ·exact .inr (by omega)
    ·exact ⟨.inr (by omega), fun e => by have e : r = j := Option.some.inj e; omega⟩)
  obtain ⟨_, _, O5⟩ := stk_store O4 (by rw [HM.out]) hu
  rw [← HM.out] at O5
  have hS5 := stkS.sl_on O5.sl (Kept.mono (q' := (kg B g)) fun j hj _ => by
   rw [HQ0.out] at hj
   rcases hj with hj | hj
   ·exact hj.1
   ·exact ⟨by omega, by omega⟩)
  have hBel : Below w.heap.size w w4 := (below_new0 w _).trans ((HB2.out.trans (hb4.mono (by omega))).mono (by omega))
  have hK5 := (HKN.out.on hBel).far (p := ⟨r, m * 2 + 1, none⟩) (show g ≠ r by omega) (.slice p4 (insS.len (insS.app (insS.app insS.nil l) (Ins.cons a tx sp nm an kids Ins.nil))) n4)
  have hBel5 := hBel.setCell (p := ⟨r, m * 2 + 1, none⟩) (show w.heap.size ≤ r by omega) (.slice p4 (insS.len (insS.app (insS.app insS.nil l) (Ins.cons a tx sp nm an kids Ins.nil))) n4)
  obtain ⟨d0, d1⟩ := hK5.two
  have f0 := hK5.free 0
  have f1 := hK5.free 1
  have hgl5 := hK5.lt
  have HK5 := Lib.hid hK5
  have HS5 := Lib.hid hS5
  have HB5 := Lib.hid hBel5
  clear hown4 hu O4 O5 hS5 hBel hK5 hBel5 hgr4 hbel4 hkd4 hgr3 hbel3 hkd3 hown3 hS3 hX3 x0 x1 x2 x3 x4 x5
  go_wp2_with fail
  go_end0
  refine ⟨rfl, ⟨some ⟨r, 0, none⟩, oc, ?_, ?_⟩, ?_⟩
  ·have := (HK5.out.put 0 (.slice (some ⟨r, 0, none⟩) (m + 1) oc)).put 1 (.bool false)
   rw [List.length_append, ← HM.out]
   exact this
  ·rw [List.length_append, ← HM.out]
   exact stkS.sl_on (stkS.sl_on HS5.out (Kept.put (fun k hk => hk.2) _ _)) (Kept.put (fun k hk => hk.2) _ _)
  ·exact ((Step.of_below HB5.out (by omega)).put _ _).put _ _
end Go.Proofs.YthieinfonomeeaaGreatDoor
namespace Go.Proofs.YthieinfonomeeaaGreatDoor
open Go.RowKit Doc Tit Inl
set_option linter.unusedVariables false
attribute [local go_sem ↓] Go.wp_at_zero Go.wp_at_succ
theorem conv_one (w : World) (c : UInt8) : (convert 69 9 (.slice (some ⟨w.heap.size, 0, none⟩) 1 1)).run Tryz.prog (w.alloc (.cells #[.int .u8 (c.toNat : Int)] 5)) = .ok (.string ⟨#[c]⟩) (w.alloc (.cells #[.int .u8 (c.toNat : Int)] 5)) := by
 have hk := Known.made w 5 #[.int .u8 (c.toNat : Int)]
 have hBI : BIn (w.alloc (.cells #[.int .u8 (c.toNat : Int)] 5)) w.heap.size [c] := by
  refine ⟨hk.lt, fun j hj => ?_⟩
  have : j = 0 := by simpa using hj
  subst this
  exact ⟨hk.cell 0, hk.free 0⟩
 exact conv_from hBI 1 1 rfl
theorem conv_one_drew (w : World) (c : UInt8) : (convert 69 9 (.slice (some ⟨w.heap.size, 0, none⟩) 1 1)).run Tryz.prog (w.alloc (.cells #[.int .u8 (c.toNat : Int)] 5)).drew = .ok (.string ⟨#[c]⟩) (w.alloc (.cells #[.int .u8 (c.toNat : Int)] 5)).drew := by
 have hk := Known.made w 5 #[.int .u8 (c.toNat : Int)]
 have hBI : BIn (w.alloc (.cells #[.int .u8 (c.toNat : Int)] 5)).drew w.heap.size [c] := by
  refine ⟨hk.lt, fun j hj => ?_⟩
  have : j = 0 := by simpa using hj
  subst this
  exact ⟨hk.cell 0, hk.free 0⟩
 exact conv_from hBI 1 1 rfl
set_option maxRecDepth 10000 in
set_option maxHeartbeats 4000000 in
theorem rletter_new (B g : Nat) (hBg : B ≤ g) (w : World) (A : Ops) (k : Int) (L : Ins) (c : UInt8) (hR : RS B g w (A ++ [(k, L)]) false) (hA : A.length ≤ 1000) (hl : L.len ≤ 1000000000) :
  Calls Tryz.prog 113 #[.pointer (some ⟨g, 0, none⟩), .int .u8 (c.toNat : Int)] w fun e w' => e = .returned (.tuple #[]) ∧ RS B g w' (A ++ [(k, L.app (txt [c]))]) true ∧ Step g w w' := by
 have hgl := hR.lt
 have hb1 := below_new0 w (.cells #[.int .u8 (c.toNat : Int)] 5)
 have hC := radd_any B g hBg _ A k L false 1 ⟨#[c]⟩ 0 ⟨#[]⟩ ⟨#[]⟩ none 0 0 .nil (hR.below hb1) Sl.empty hA hl
 have hcv := conv_one w c
 have HC := Lib.hid hC
 have HB1 := Lib.hid hb1
 obtain ⟨p, cc, hKn, hS⟩ := hR
 have hn : (A ++ [(k, L)]).length = A.length + 1 := by simp
 rw [hn] at hKn
 obtain ⟨d0, d1⟩ := hKn.two
 clear hC hb1 hKn hS hn
 go_enter Tryz.func113, Tryz.ntmps113
 go_wp2_with fail
 refine HC.out.mono ?_
 rintro e w1 ⟨rfl, hR1, hS1⟩
 obtain ⟨p1, c1, hKn1, hSl1⟩ := hR1
 obtain ⟨e0, e1⟩ := hKn1.two
 have f1 := hKn1.free 1
 have hgl1 := hKn1.lt
 have HK1 := Lib.hid hKn1
 have HS1 := Lib.hid hS1
 have HSL := Lib.hid hSl1
 clear hKn1 hS1 hSl1
 go_wp2_with fail
 refine bodyPost_ret (results_none rfl _ _ _) rfl ?_
 refine ⟨rfl, ⟨p1, c1, HK1.out.put 1 (.bool true), stkS.sl_on HSL.out (Kept.put (fun k hk => hk.2) _ _)⟩, ((Step.of_below HB1.out (by omega)).trans HS1.out).put _ _⟩
theorem app_one (p : List UInt8) (c : UInt8) : (⟨p.toArray⟩ : ByteArray) ++ ⟨#[c]⟩ = ⟨(p ++ [c]).toArray⟩ := bytes_ext (by rw [app_data])
set_option maxRecDepth 10000 in
set_option maxHeartbeats 4000000 in
theorem rletter_more (B g : Nat) (hBg : B ≤ g) (w : World) (A : Ops) (k : Int) (l : Ins) (p : List UInt8) (ch : UInt8) (hR : RS B g w (A ++ [(k, l.app (txt p))]) true) (hA : A.length ≤ 1000) (hl : l.len ≤ 1000000000) (hp : p.length ≤ 1000000000) :
  Calls Tryz.prog 113 #[.pointer (some ⟨g, 0, none⟩), .int .u8 (ch.toNat : Int)] w fun e w' => e = .returned (.tuple #[]) ∧ RS B g w' (A ++ [(k, l.app (txt (p ++ [ch])))]) true ∧ Step g w w' := by
 have hgl := hR.lt
 obtain ⟨p0, c, hKn, hS⟩ := hR
 obtain ⟨b, o, _, _, rfl, hqb, hbl, hn, hnc, hcm, _, _, _⟩ := stk_at hS
 have hn' : (A ++ [(k, l.app (txt p))]).length = A.length + 1 := by simp
 rw [hn'] at hS hKn
 obtain ⟨m, hm⟩ : ∃ m, m = A.length := ⟨_, rfl⟩
 rw [← hm] at hA hS hKn
 obtain ⟨d0, d1⟩ := hKn.two
 obtain ⟨q0, hq0⟩ : ∃ q0 : Nat → Prop, q0 = fun k => kg B g k ∧ k < w.heap.size := ⟨_, rfl⟩
 have hqu : ∀ k, kg B g k → k < w.heap.size → q0 k := fun k h1 h2 => by rw [hq0]; exact ⟨h1, h2⟩
 have hS1 := stkS.sl_on hS (Kept.mono hqu)
 have hnn : stkS.len (A ++ [(k, l.app (txt p))]) = m + 1 := by rw [stk_len, List.length_append, ← hm]; rfl
 have hsrc := Shp.src_of (S := stkS) (stkS.sl_on hS1 (Kept.mono (q' := Shp.kind q0 w.heap.size (.slice none 0 0)) fun k hk _ => ⟨.inl hk, fun e => by cases e⟩))
 have hll : (l.app (txt p)).len = l.len + 1 := by rw [Ins.len_app]; rfl
 have HLL := Lib.hid hll
 have HSRC := Lib.hid hsrc
 have HNN := Lib.hid hnn
 have HQ0 := Lib.hid hq0
 have HM := Lib.hid hm
 have HKN := Lib.hid hKn
 clear hS1 hq0 hqu hm hKn hS hn hn' hsrc hnn hll
 go_enter Tryz.func113, Tryz.ntmps113
 go_wp2_with (at_builtin; go_must (refine append_shp stkS tyO _ rfl _ _ rfl (Shp.own.nil (q := q0) (B := w.heap.size)) rfl HSRC.out rfl (by rw [HNN.out]; show (0 + (m + 1)) * 33 ≤ _; omega) (Nat.le_refl _) ?_); intro v2 w2 hown2 hgr2 hbel2 hkd2)
 have hb2 := hbel2 _ (Below.refl _ _)
 have hown2 : stkS.own 135 q0 w.heap.size w2 v2 (A ++ [(k, l.app (txt p))]) := hown2
 obtain ⟨r, oc, rfl, hBr, hrl, hob⟩ := stk_form (A := A) (C := []) (x := (k, l.app (txt p))) hown2
 rw [← HM.out, List.length_nil, Nat.zero_add] at hown2 ⊢
 obtain ⟨lp, lc, _, c1, hL2⟩ := stk_own_at hown2
 rw [← HM.out] at c1
 obtain ⟨q1, hq1⟩ : ∃ q1 : Nat → Prop, q1 = fun k => (kg B g k ∧ k ≠ r) ∧ k < w2.heap.size := ⟨_, rfl⟩
 have hsz2 := hb2.size
 have hLI : insS.sl q1 w2 (.slice lp (l.app (txt p)).len lc) (l.app (txt p)) := by
  refine insS.sl_on hL2 (Kept.mono ?_)
  rintro j ⟨hj, hj2⟩ hlt
  have hjr : j ≠ r := fun e => hj2 (by rw [e]; rfl)
  rw [hq1]
  rw [HQ0.out] at hj
  rcases hj with hj | hj
  ·exact ⟨⟨hj.1, hjr⟩, hlt⟩
  ·exact ⟨⟨⟨by omega, by omega⟩, hjr⟩, hlt⟩
 have hsrc2 := Shp.src_of (S := insS) (insS.sl_on hLI (Kept.mono (q' := Shp.kind q1 w2.heap.size (.slice none 0 0)) fun k hk _ => ⟨.inl hk, fun e => by cases e⟩))
 rw [HLL.out] at hsrc2 c1
 have hfr : w2.frozen? ⟨r, m * 2 + 1, none⟩ = false := by
  obtain ⟨xs, h1, _⟩ := hown2
  rw [HNN.out] at h1
  exact h1.frozenAt _
 have HSRC2 := Lib.hid hsrc2
 have HO2 := Lib.hid hown2
 have HB2 := Lib.hid hb2
 have HQ1 := Lib.hid hq1
 have hi0 : (0 : Int) ≤ (m : Int) := by omega
 have hi1 : (m : Int) < (m : Int) + 1 := by omega
 clear hLI hown2 hb2 hq1 hgr2 hbel2 hkd2 hL2 hob HSRC hsrc2 d0 d1
 go_wp2_with fail
 go_simp
 go_wp2_with (at_builtin; go_must (refine append_shp insS tyI _ rfl _ _ rfl (Shp.own.nil (q := q1) (B := w2.heap.size)) rfl HSRC2.out rfl (by show (0 + (l.app (txt p)).len) * 89 ≤ _; rw [HLL.out]; omega) (Nat.le_refl _) ?_); intro v3 w3 hown3 hgr3 hbel3 hkd3)
 have hb3 := hbel3 _ (Below.refl _ _)
 have hown3 : insS.own 56 q1 w2.heap.size w3 v3 (l.app (txt p)) := hown3
 obtain ⟨r3, n3, rfl, hBr3, hrl3, hob3⟩ := ins_form hown3 HLL.out
 obtain ⟨x1, xf, O4⟩ := ins_store (p' := p ++ [ch]) hown3 rfl
 have xf1 := xf (l.len * 6 + 1)
 obtain ⟨P, hP⟩ : ∃ P : ByteArray, P = ⟨p.toArray⟩ := ⟨_, rfl⟩
 have hPz : P.size = p.length := by rw [hP, Lib.size_mk]
 have hPP : P ++ ⟨#[ch]⟩ = ⟨(p ++ [ch]).toArray⟩ := by rw [hP]; exact app_one p ch
 rw [← hP] at x1
 have hno : ¬ (9223372036854775807 < P.size + (⟨#[ch]⟩ : ByteArray).size) := by
  show ¬ (9223372036854775807 < P.size + 1)
  omega
 have hcv := conv_one_drew w3 ch
 have hwr : IntKind.i64.wrap (l.len : Int) = (l.len : Int) := IntWalk.i64_in _ (by omega)
 have hj0 : (0 : Int) ≤ (l.len : Int) := by omega
 have hj1 : (l.len : Int) < (l.len : Int) + 1 := by omega
 have HO3 := Lib.hid hown3
 have HB3 := Lib.hid hb3
 have HPP := Lib.hid hPP
 have HO4 := Lib.hid O4
 clear hown3 hb3 hgr3 hbel3 hkd3 hob3 xf O4 hP hPP HSRC2
 go_region
 rw [HPP.out]
 have hb6 : Below w2.heap.size w2 ((w3.setCell ⟨r3, l.len * 6 + 1, none⟩ (.string ⟨(p ++ [ch]).toArray⟩)).alloc (.cells #[.int .u8 (ch.toNat : Int)] 5)).drew :=
  ((HB3.out.setCell (p := ⟨r3, l.len * 6 + 1, none⟩) hBr3 _).alloc (by have := HB3.out.size; simp; omega) _).drew
 have O6 : insS.own 56 q1 w2.heap.size ((w3.setCell ⟨r3, l.len * 6 + 1, none⟩ (.string ⟨(p ++ [ch]).toArray⟩)).alloc (.cells #[.int .u8 (ch.toNat : Int)] 5)).drew (.slice (some ⟨r3, 0, none⟩) (l.len + 1) n3) (l.app (txt (p ++ [ch]))) :=
  HO4.out.below ((below_new0 _ _).drew)
 generalize ((w3.setCell ⟨r3, l.len * 6 + 1, none⟩ (.string ⟨(p ++ [ch]).toArray⟩)).alloc (.cells #[.int .u8 (ch.toNat : Int)] 5)).drew = w6 at hb6 O6 ⊢
 have hz6 := hb6.size
 have OO := HO2.out.below hb6
 have hu : insS.sl (Shp.kind q0 w.heap.size (.slice (some ⟨r, 0, none⟩) (m + 1) oc)) w6 (.slice (some ⟨r3, 0, none⟩) (l.len + 1) n3) (l.app (txt (p ++ [ch]))) :=
  insS.sl_on O6.sl (Kept.mono fun j hj _ => by
   rw [HQ1.out] at hj
   rcases hj with hj | hj
   ·refine ⟨?_, fun e => hj.1.2 (Option.some.inj e).symm⟩
    by_cases e : j < w.heap.size
    ·rw [HQ0.out]; exact .inl ⟨hj.1.1, e⟩
    ·exact .inr (by omega)
   ·exact ⟨.inr (by omega), fun e => by have e : r = j := Option.some.inj e; omega⟩)
 obtain ⟨_, _, O5⟩ := stk_store OO (by rw [HM.out]) hu
 rw [← HM.out] at O5
 have hS5 := stkS.sl_on O5.sl (Kept.mono (q' := (kg B g)) fun j hj _ => by
  rw [HQ0.out] at hj
  rcases hj with hj | hj
  ·exact hj.1
  ·exact ⟨by omega, by omega⟩)
 have hBel : Below w.heap.size w w6 := HB2.out.trans (hb6.mono (by omega))
 have hK5 := (HKN.out.on hBel).far (p := ⟨r, m * 2 + 1, none⟩) (show g ≠ r by omega) (.slice (some ⟨r3, 0, none⟩) (l.len + 1) n3)
 have hBel5 := hBel.setCell (p := ⟨r, m * 2 + 1, none⟩) (show w.heap.size ≤ r by omega) (.slice (some ⟨r3, 0, none⟩) (l.len + 1) n3)
 replace c1 := (hb6.cell (p := ⟨r, m * 2 + 1, none⟩) hrl).trans c1
 replace hfr := (hb6.frozen (p := ⟨r, m * 2 + 1, none⟩) hrl).trans hfr
 have hrl6 : r < w6.heap.size := by omega
 obtain ⟨d0, d1⟩ := hK5.two
 have f0 := hK5.free 0
 have hgl5 := hK5.lt
 have HK5 := Lib.hid hK5
 have HS5 := Lib.hid hS5
 have HB5 := Lib.hid hBel5
 clear hu O6 OO O5 hS5 hBel hK5 hBel5 hb6 hcv hwr hno x1 xf1
 go_wp2_with fail
 go_simp
 go_wp2_with fail
 go_end0
 refine ⟨rfl, ⟨some ⟨r, 0, none⟩, oc, ?_, ?_⟩, ?_⟩
 ·have := HK5.out.put 0 (.slice (some ⟨r, 0, none⟩) (m + 1) oc)
  rw [List.length_append, ← HM.out]
  exact this
 ·rw [List.length_append, ← HM.out]
  exact stkS.sl_on HS5.out (Kept.put (fun k hk => hk.2) _ _)
 ·exact (Step.of_below HB5.out (by omega)).put _ _
end Go.Proofs.YthieinfonomeeaaGreatDoor
namespace Go.Proofs.YthieinfonomeeaaGreatDoor
open Go.RowKit Doc Tit Inl
set_option linter.unusedVariables false
attribute [local go_sem ↓] Go.wp_at_zero Go.wp_at_succ
theorem stk_take {q : Nat → Prop} {w : World} {p : Option Addr} {n c m : Nat} {A B : Ops} (h : stkS.sl q w (.slice p n c) (A ++ B)) (hm : m = A.length) : stkS.sl q w (.slice p m c) A := by
 obtain ⟨p', c', h1, h2, h3, h4, h5⟩ := h
 injection h1 with e1 e2 e3
 subst e1 e2 e3
 have hl : stkS.len (A ++ B) = A.length + B.length := by rw [stk_len, List.length_append]
 subst hm
 refine ⟨p, c, rfl, by rw [hl] at h2; show A.length ≤ c; omega, h3, h4, ?_⟩
 rcases h5 with h5 | ⟨b, o, ys, rfl, h6, h7, h8, h9⟩
 ·exact .inl (by show A.length = 0; omega)
 ·obtain ⟨us, zs, rfl, ha, hb⟩ := SEnc.split h9
  refine .inr ⟨b, o, us, rfl, h6, h7, fun i u hu => h8 i u ?_, ha⟩
  rw [List.getElem?_append_left (List.getElem?_eq_some_iff.1 hu).1]
  exact hu
set_option maxRecDepth 10000 in
set_option maxHeartbeats 4000000 in
theorem rend_any (B g : Nat) (hBg : B ≤ g) (w : World) (A : Ops) (k : Int) (l : Ins) (t : Bool) (hR : RS B g w (A ++ [(k, l)]) t) (hA : A.length ≤ 1000) (hl : l.len ≤ 1000000000)
  (hne : l.len ≠ 0 → ∃ A' k' l', A = A' ++ [(k', l')] ∧ l'.len ≤ 1000000000) :
  Calls Tryz.prog 115 #[.pointer (some ⟨g, 0, none⟩)] w fun e w' => e = .returned (.tuple #[]) ∧ Step g w w' ∧
   (l.len = 0 → RS B g w' A t) ∧ (∀ A' k' l', l.len ≠ 0 → A = A' ++ [(k', l')] → RS B g w' (A' ++ [(k', l'.app (el k [] l))]) false) := by
 have hgl := hR.lt
 obtain ⟨p0, c, hKn, hS⟩ := hR
 obtain ⟨b, o, lp, lc, rfl, hqb, hbl, hn, hnc, hcm, c0, c1, hL⟩ := stk_at hS
 have hn' : (A ++ [(k, l)]).length = A.length + 1 := by simp
 rw [hn'] at hS hKn hnc
 obtain ⟨m, hm⟩ : ∃ m, m = A.length := ⟨_, rfl⟩
 rw [← hm] at hA hS hKn c0 c1 hnc
 obtain ⟨d0, d1⟩ := hKn.two
 have f0 := hKn.free 0
 have f1 := hKn.free 1
 have hb1 := below_new0 w (.cells #[.int .i64 k, .slice lp l.len lc] 135)
 have hX := Known.made w 135 #[.int .i64 k, .slice lp l.len lc]
 obtain ⟨q0, hq0⟩ : ∃ q0 : Nat → Prop, q0 = fun k => kg B g k ∧ k < w.heap.size + 1 := ⟨_, rfl⟩
 have hqu : ∀ j, kg B g j → j < (w.alloc (.cells #[.int .i64 k, .slice lp l.len lc] 135)).heap.size → q0 j := fun k h1 h2 => by
  rw [World.size_alloc] at h2; rw [hq0]; exact ⟨h1, h2⟩
 have hS1 := stkS.sl_on (stkS.sl_on (stk_take hS hm) (Kept.below hb1)) (Kept.mono hqu)
 have hL1 := insS.sl_on hL (Kept.below hb1)
 have hnn : stkS.len A = m := by rw [stk_len, hm]
 have hsrc := Shp.src_of (S := stkS) (stkS.sl_on hS1 (Kept.mono (q' := Shp.kind q0 (w.heap.size + 1) (.slice none 0 0)) fun k hk _ => ⟨.inl hk, fun e => by cases e⟩))
 have hi0 : (0 : Int) ≤ (m : Int) := by omega
 have hi1 : (m : Int) < (m : Int) + 1 := by omega
 have hi2 : m ≤ c := by omega
 have hi3 : (m : Int) ≤ (c : Int) := by omega
 have HSRC := Lib.hid hsrc
 have HNN := Lib.hid hnn
 have HQ0 := Lib.hid hq0
 have HM := Lib.hid hm
 have HKN := Lib.hid hKn
 have HX := Lib.hid hX
 have HL1 := Lib.hid hL1
 have HNE := Lib.hid hne
 clear hS1 hq0 hqu hm hKn hS hn hn' hsrc hnn hL hL1 hX hb1 hne
 rcases Nat.eq_zero_or_pos l.len with h0 | h0
 ·have g1 : decide (0 < l.len) = false := by simp; omega
  have H0 := Lib.hid h0
  clear h0
  go_enter Tryz.func115, Tryz.ntmps115
  go_wp2_with (
   at_builtin
   go_must (refine append_shp stkS tyO _ rfl _ _ rfl (Shp.own.nil (q := q0) (B := w.heap.size + 1)) rfl HSRC.out rfl (by rw [HNN.out]; show (0 + m) * 33 ≤ _; omega) (by simp) ?_)
   intro v2 w2 hown2 hgr2 hbel2 hkd2
   have hb2 := hbel2 _ (Below.refl _ _)
   have hown2 : stkS.own 135 q0 (w.heap.size + 1) w2 v2 A := hown2
   obtain ⟨p2, n2, rfl⟩ := hown2.form
   rw [HNN.out] at hown2 ⊢
   have hb2' : Below (w.alloc (.cells #[.int .i64 k, .slice lp l.len lc] 135)).heap.size (w.alloc (.cells #[.int .i64 k, .slice lp l.len lc] 135)) w2 := hb2.mono (by simp)
   have hKn2 := (HKN.out.on (below_new0 w _)).on hb2'
   have hX2 := HX.out.on hb2'
   obtain ⟨e0, e1⟩ := hKn2.two
   have e2 := hKn2.free 0
   have e3 := hKn2.lt
   obtain ⟨x0, x1⟩ := hX2.two
   have xl := hX2.lt
   have HK2 := Lib.hid hKn2
   have HO2 := Lib.hid hown2
   have HB2 := Lib.hid hb2'
   clear hb2 hb2' hKn2 hX2 hgr2 hbel2 hkd2 hown2
   have hR3 : RS B g (w2.setCell ⟨g, 0, none⟩ (.slice p2 m n2)) A t := by
    refine ⟨p2, n2, ?_, ?_⟩
    ·rw [← HM.out]; exact HK2.out.put 0 _
    ·rw [← HM.out]
     refine stkS.sl_on (stkS.sl_on HO2.out.sl (Kept.mono (q' := (kg B g)) fun j hj _ => ?_)) (Kept.put (fun k hk => hk.2) _ _)
     rw [HQ0.out] at hj
     rcases hj with hj | hj
     ·exact hj.1
     ·exact ⟨by omega, by omega⟩
   have hS3 : Step g w (w2.setCell ⟨g, 0, none⟩ (.slice p2 m n2)) := (Step.of_below ((below_new0 w _).trans (HB2.out.mono (by simp))) (by omega)).put _ _
   have hL3 : insS.sl (kg B g) (w2.setCell ⟨g, 0, none⟩ (.slice p2 m n2)) (.slice lp l.len lc) l := insS.sl_on (insS.sl_on HL1.out (Kept.below HB2.out)) (Kept.put (fun k hk => hk.2) _ _)
   have HR3 := Lib.hid hR3
   have HS3 := Lib.hid hS3
   have HL3 := Lib.hid hL3
   clear hR3 hS3 hL3)
  go_end0
  exact ⟨rfl, HS3.out, fun _ => HR3.out, fun _ _ _ h => absurd H0.out h⟩
 ·have g1 : decide (0 < l.len) = true := by simp; omega
  obtain ⟨A', k', l', hA', hl'⟩ := HNE.out (by omega)
  have HA' := Lib.hid hA'
  have H0 := Lib.hid h0
  have hAz : A'.length ≤ 1000 := by rw [HM.out, hA', List.length_append] at hA; omega
  clear hA' h0
  go_enter Tryz.func115, Tryz.ntmps115
  go_wp2_with (
   at_builtin
   go_must (refine append_shp stkS tyO _ rfl _ _ rfl (Shp.own.nil (q := q0) (B := w.heap.size + 1)) rfl HSRC.out rfl (by rw [HNN.out]; show (0 + m) * 33 ≤ _; omega) (by simp) ?_)
   intro v2 w2 hown2 hgr2 hbel2 hkd2
   have hb2 := hbel2 _ (Below.refl _ _)
   have hown2 : stkS.own 135 q0 (w.heap.size + 1) w2 v2 A := hown2
   obtain ⟨p2, n2, rfl⟩ := hown2.form
   rw [HNN.out] at hown2 ⊢
   have hb2' : Below (w.alloc (.cells #[.int .i64 k, .slice lp l.len lc] 135)).heap.size (w.alloc (.cells #[.int .i64 k, .slice lp l.len lc] 135)) w2 := hb2.mono (by simp)
   have hKn2 := (HKN.out.on (below_new0 w _)).on hb2'
   have hX2 := HX.out.on hb2'
   obtain ⟨e0, e1⟩ := hKn2.two
   have e2 := hKn2.free 0
   have e3 := hKn2.lt
   obtain ⟨x0, x1⟩ := hX2.two
   have xl := hX2.lt
   have HK2 := Lib.hid hKn2
   have HO2 := Lib.hid hown2
   have HB2 := Lib.hid hb2'
   clear hb2 hb2' hKn2 hX2 hgr2 hbel2 hkd2 hown2
   have hR3 : RS B g (w2.setCell ⟨g, 0, none⟩ (.slice p2 m n2)) A t := by
    refine ⟨p2, n2, ?_, ?_⟩
    ·rw [← HM.out]; exact HK2.out.put 0 _
    ·rw [← HM.out]
     refine stkS.sl_on (stkS.sl_on HO2.out.sl (Kept.mono (q' := (kg B g)) fun j hj _ => ?_)) (Kept.put (fun k hk => hk.2) _ _)
     rw [HQ0.out] at hj
     rcases hj with hj | hj
     ·exact hj.1
     ·exact ⟨by omega, by omega⟩
   have hS3 : Step g w (w2.setCell ⟨g, 0, none⟩ (.slice p2 m n2)) := (Step.of_below ((below_new0 w _).trans (HB2.out.mono (by simp))) (by omega)).put _ _
   have hL3 : insS.sl (kg B g) (w2.setCell ⟨g, 0, none⟩ (.slice p2 m n2)) (.slice lp l.len lc) l := insS.sl_on (insS.sl_on HL1.out (Kept.below HB2.out)) (Kept.put (fun k hk => hk.2) _ _)
   have HR3 := Lib.hid hR3
   have HS3 := Lib.hid hS3
   have HL3 := Lib.hid hL3
   clear hR3 hS3 hL3)
  have hC := radd_any B g hBg _ A' k' l' t k ⟨#[]⟩ 0 ⟨#[]⟩ ⟨#[]⟩ lp l.len lc l (HA'.out ▸ HR3.out) HL3.out hAz hl'
  refine hC.mono ?_
  rintro e w5 ⟨rfl, hR5, hS5⟩
  have HR5 := Lib.hid hR5
  have HS5 := Lib.hid (HS3.out.trans hS5)
  clear hR5 hS5 hC
  go_wp2_with fail
  go_end0
  refine ⟨rfl, HS5.out, fun h => absurd h (by have := H0.out; omega), fun A2 k2 l2 _ h => ?_⟩
  have h2 := HA'.out.symm.trans h
  obtain ⟨e1, e2⟩ := List.append_inj' h2 rfl
  injection e2 with e2
  injection e2 with e2 e3
  subst e1 e2 e3
  exact HR5.out
end Go.Proofs.YthieinfonomeeaaGreatDoor
namespace Go.Proofs.YthieinfonomeeaaGreatDoor
open Go.RowKit Doc Tit Inl
set_option linter.unusedVariables false
attribute [local go_sem ↓] Go.wp_at_zero Go.wp_at_succ
theorem ins_none {q : Nat → Prop} {w : World} : insS.sl q w (.slice none 0 0) .nil := Sl.empty
theorem ops_snoc {L : Ops} (h : 1 ≤ L.length) : ∃ A k l, L = A ++ [(k, l)] := by
 have hne : L ≠ [] := fun e => by rw [e] at h; simp at h
 exact ⟨L.dropLast, (L.getLast hne).1, (L.getLast hne).2, (List.dropLast_concat_getLast hne).symm⟩
theorem rend_t (B g : Nat) (hBg : B ≤ g) (w : World) (L : Ops) (t : Bool) (hR : RS B g w L t) (h2 : 2 ≤ L.length) (hn : L.length ≤ 1000) (ht : tot L.reverse ≤ 1000000000) :
  Calls Tryz.prog 115 #[.pointer (some ⟨g, 0, none⟩)] w fun e w' => e = .returned (.tuple #[]) ∧ Step g w w' ∧ ∃ t', RS B g w' (endT L.reverse).reverse t' := by
 obtain ⟨A, k, l, rfl⟩ := ops_snoc (L := L) (by omega)
 rw [List.length_append] at h2 hn
 simp only [List.length_cons, List.length_nil] at h2 hn
 obtain ⟨A', k', l', rfl⟩ := ops_snoc (L := A) (by omega)
 have hl := len_tot (k := k) (l := l) (st := (A' ++ [(k', l')] ++ [(k, l)]).reverse) (by simp)
 have hl' := len_tot (k := k') (l := l') (st := (A' ++ [(k', l')] ++ [(k, l)]).reverse) (by simp)
 refine (rend_any B g hBg w _ k l t hR (by omega) (by omega) (fun _ => ⟨A', k', l', rfl, by omega⟩)).mono ?_
 rintro e w' ⟨rfl, hS, h3, h4⟩
 refine ⟨rfl, hS, ?_⟩
 have e1 : (A' ++ [(k', l')] ++ [(k, l)]).reverse = (k, l) :: (k', l') :: A'.reverse := by simp
 rw [e1]
 by_cases h0 : l.len = 0
 ·refine ⟨t, ?_⟩
  have := h3 h0
  rw [endT, if_pos h0]
  simpa using this
 ·refine ⟨false, ?_⟩
  have := h4 A' k' l' h0 rfl
  rw [endT, if_neg h0, addTop]
  simpa using this
theorem ops_at {L : Ops} {i : Nat} (h : i < L.length) : L = L.take i ++ L[i] :: L.drop (i + 1) := by
 rw [← List.drop_eq_getElem_cons h, List.take_append_drop]
set_option maxRecDepth 10000 in
set_option maxHeartbeats 8000000 in
theorem rtoggle_any (B g : Nat) (hBg : B ≤ g) (w : World) (L : Ops) (t : Bool) (k : Int) (hR : RS B g w L t) (h1 : 1 ≤ L.length) (h0 : ∀ h : 0 < L.length, L[0].1 ≠ k) (hn : L.length ≤ 1000) (ht : tot L.reverse ≤ 1000000000) :
  Calls Tryz.prog 139 #[.pointer (some ⟨g, 0, none⟩), .int .i64 k] w fun e w' => e = .returned (.tuple #[]) ∧ Step g w w' ∧ RS B g w' (toggle k L.reverse).reverse false := by
 have hgl := hR.lt
 obtain ⟨p, c, hKn, hS⟩ := hR
 have hC : ∀ i (h : i < L.length), ∃ b o, p = some ⟨b, o, none⟩ ∧ b ≠ g ∧ b < w.heap.size ∧ w.cell? ⟨b, o + i * 2, none⟩ = some (.int .i64 L[i].1) := fun i h => by
  have e := ops_at h
  rw [e] at hS
  obtain ⟨b, o, kp, kc, h1, h2, h3, _, _, _, h4, _, _⟩ := stk_at (k := L[i].1) (l := L[i].2) hS
  rw [List.length_take_of_le (by omega)] at h4
  exact ⟨b, o, h1, h2.2, h3, h4⟩
 obtain ⟨b, o, rfl, hbg, hbl, _⟩ := hC 0 (by omega)
 have hC : ∀ i (h : i < L.length), w.cell? ⟨b, o + i * 2, none⟩ = some (.int .i64 L[i].1) := fun i h => by
  obtain ⟨b', o', h1, _, _, h4⟩ := hC i h
  injection h1 with h1
  injection h1 with h1 h2
  subst h1 h2
  exact h4
 obtain ⟨d0, d1⟩ := hKn.two
 have f0 := hKn.free 0
 have f1 := hKn.free 1
 obtain ⟨n, hnL⟩ : ∃ n, n = L.length := ⟨_, rfl⟩
 rw [← hnL] at hKn hS h1 hn d0
 have HC := Lib.hid hC
 have HNL := Lib.hid hnL
 have HS := Lib.hid hS
 have HKN := Lib.hid hKn
 have H0 := Lib.hid h0
 have HT := Lib.hid ht
 clear hC hnL hS hKn h0 ht
 go_enter Tryz.func139, Tryz.ntmps139
 go_wp2_with fail
 obtain ⟨w1, hw1⟩ : ∃ w1, w1 = w.setCell ⟨g, 1, none⟩ (.bool false) := ⟨_, rfl⟩
 have hK1 := HKN.out.put 1 (.bool false)
 have hS1 := stkS.sl_on HS.out (Kept.put (g := g) (fun k hk => hk.2) 1 (.bool false))
 have hC1 : ∀ i (h : i < L.length), w1.cell? ⟨b, o + i * 2, none⟩ = some (.int .i64 L[i].1) := fun i h => by
  rw [hw1]
  exact (World.cell?_of_block (w := w) (Below.heap_setCell _ _ _ _ (show b ≠ g by exact hbg))).trans (HC.out i h)
 have hSt1 : Step g w w1 := by rw [hw1]; exact (Step.refl g w).put _ _
 have hK1 : Known w1 g 138 #[.slice (some ⟨b, o, none⟩) n c, .bool false] := by rw [hw1]; exact hK1
 rw [← hw1] at hS1 ⊢
 have hz1 : w.heap.size ≤ w1.heap.size := hSt1.size
 have hbl1 : b < w1.heap.size := by omega
 have hgl1 := hK1.lt
 obtain ⟨e0, e1⟩ := hK1.two
 have HC1 := Lib.hid hC1
 have HS1 := Lib.hid hS1
 have HK1 := Lib.hid hK1
 have HST1 := Lib.hid hSt1
 clear hw1 hC1 hS1 hK1 hSt1 HC HKN HS d0 d1 f0 f1
 go_loopg [4, 5] (n + 1) (fun gg s4 s5 wr => ∃ i a : Nat, s5 = .int .i64 i ∧ s4 = .int .i64 a ∧ 1 ≤ i ∧ i ≤ n ∧ n < i + gg ∧ a < i ∧ (a ≠ 0 → ∃ h : a < L.length, L[a].1 = k) ∧ (∀ j (h : j < L.length), a < j → j < i → L[j].1 ≠ k) ∧ w1 = wr)
 case atStart => exact ⟨1, 0, rfl, rfl, by omega, by omega, by omega, by omega, fun h => absurd rfl h, fun j h h2 h3 => by omega, rfl⟩
 case round =>
  obtain ⟨i, a, rfl, rfl, hi1, hin, hgg, hai, hak, hno, rfl⟩ := hrel
  have HAK := Lib.hid hak
  have HNO := Lib.hid hno
  clear hak hno
  by_cases hi : i < n
  ·have g1 : decide ((i : Int) < (n : Int)) = true := decide_eq_true (by omega)
   have g1' : decide (i < n) = true := decide_eq_true hi
   have hiL : i < L.length := by rw [← HNL.out]; exact hi
   have ci := HC1.out i hiL
   obtain ⟨ki, hki⟩ : ∃ ki, ki = L[i].1 := ⟨_, rfl⟩
   rw [← hki] at ci
   have HKI := Lib.hid hki
   have hi0 : (0 : Int) ≤ (i : Int) := by omega
   have hi2 : (i : Int) < (n : Int) := by omega
   clear hki
   by_cases hkk : ki = k
   ·have g2 : (ki == k) = true := by simpa using hkk
    have HKK := Lib.hid hkk
    clear hkk
    go_wp2_with fail
    go_roundg (n - i)
    case measure => omega
    case rel => exact ⟨i + 1, i, by go_num, rfl, by omega, by omega, by omega, by omega, fun _ => ⟨hiL, by rw [← HKI.out, HKK.out]⟩, fun j h h2 h3 => by omega, rfl⟩
   ·have g2 : (ki == k) = false := by simpa using hkk
    have HKK := Lib.hid hkk
    clear hkk
    go_wp2_with fail
    go_roundg (n - i)
    case measure => omega
    case rel => exact ⟨i + 1, a, by go_num, rfl, by omega, by omega, by omega, by omega, HAK.out, fun j h h2 h3 => by
     by_cases e : j = i
     ·subst e; rw [← HKI.out]; exact HKK.out
     ·exact HNO.out j h h2 (by omega), rfl⟩
  ·have g1 : decide (i < n) = false := decide_eq_false hi
   have hieq : i = n := by omega
   subst hieq
   obtain ⟨q0, hq0⟩ : ∃ q0 : Nat → Prop, q0 = fun k => kg B g k ∧ k < w1.heap.size := ⟨_, rfl⟩
   by_cases ha : a = 0
   ·subst ha
    have htg : (toggle k L.reverse).reverse = L ++ [(k, .nil)] := by
     rw [toggle_none]
     ·simp
     ·intro x hx
      obtain ⟨j, hj, rfl⟩ := List.getElem_of_mem hx
      by_cases e : j = 0
      ·subst e; exact H0.out hj
      ·exact HNO.out j hj (by omega) (by rw [HNL.out]; exact hj)
    have hsrc := Shp.src_of (S := stkS) (stkS.sl_on HS1.out (Kept.mono (q' := Shp.kind q0 w1.heap.size (.slice none 0 0)) fun j hj hl => ⟨.inl (by rw [hq0]; exact ⟨hj, hl⟩), fun e => by cases e⟩))
    have hln : stkS.len L = i := by rw [stk_len, HNL.out]
    have HSRC := Lib.hid hsrc
    have HLN := Lib.hid hln
    have HTG := Lib.hid htg
    have HQ0 := Lib.hid hq0
    clear hq0 htg hsrc hln HAK HNO HC1 H0 HS1
    go_wp2_with (first
     | (at_builtin
        refine append_shp stkS tyO _ rfl _ _ rfl (Shp.own.nil (q := q0) (B := w1.heap.size)) rfl HSRC.out rfl (by rw [HLN.out]; show (0 + i) * 33 ≤ _; omega) (Nat.le_refl _) ?_
        intro v2 w2 hown2 hgr2 hbel2 hkd2
        have hb2 := hbel2 _ (Below.refl _ _)
        have hz2 := hb2.size
        have HB2 := Lib.hid hb2
        have HO2 : Hid (stkS.own 135 q0 w1.heap.size w2 v2 L) := Lib.hid hown2
        clear hown2 hgr2 hbel2 hkd2 hb2)
     | (at_builtin
        go_must (refine append_shp stkS tyO _ rfl _ _ rfl (HO2.out.below (below_new0 _ _)) rfl (src_open (Known.made _ _ _) ins_none) rfl (by rw [HLN.out]; show (i + 1) * 33 ≤ _; omega) (by simp; omega) ?_)
        intro v3 w3 hown3 hgr3 hbel3 hkd3
        have hb3 := hbel3 _ (HB2.out.trans ((below_new0 w2 _).mono hz2))
        have hown3 : stkS.own 135 q0 w1.heap.size w3 v3 (L ++ [(k, .nil)]) := hown3
        obtain ⟨p3, n3, rfl⟩ := hown3.form
        have hK3 := HK1.out.on hb3
        obtain ⟨e0, e1⟩ := hK3.two
        have f0 := hK3.free 0
        have hgl3 := hK3.lt
        have HK3 := Lib.hid hK3
        have HO3 := Lib.hid hown3
        have HB3 := Lib.hid hb3
        clear hb3 hown3 hgr3 hbel3 hkd3 hK3))
    refine bodyPost_ret (results_none rfl _ _ _) rfl ?_
    refine ⟨rfl, (HST1.out.trans (Step.of_below HB3.out (by omega))).put _ _, ?_⟩
    rw [HTG.out]
    refine ⟨p3, n3, ?_, ?_⟩
    ·exact HK3.out.put 0 _
    ·refine stkS.sl_on (stkS.sl_on HO3.out.sl (Kept.mono (q' := (kg B g)) fun j hj _ => ?_)) (Kept.put (fun k hk => hk.2) _ _)
     rw [HQ0.out] at hj
     rcases hj with hj | hj
     ·exact hj.1
     ·exact ⟨by omega, by omega⟩
   ·obtain ⟨haL, hka⟩ := HAK.out ha
    obtain ⟨C, hC⟩ : ∃ C, C = L.drop (a + 1) := ⟨_, rfl⟩
    obtain ⟨cN, hcN⟩ : ∃ cN, cN = C.length := ⟨_, rfl⟩
    have hlC : a + 1 + cN = i := by rw [hcN, hC, List.length_drop, HNL.out]; omega
    have hCm : ∀ m (h : m < C.length), ∃ h2 : a + 1 + m < L.length, C[m] = L[a + 1 + m] := fun m h => by
     subst hC
     exact ⟨by rw [List.length_drop] at h; omega, List.getElem_drop ..⟩
    have hnoC : ∀ x ∈ C, x.1 ≠ k := by
     intro x hx
     obtain ⟨j, hj, rfl⟩ := List.getElem_of_mem hx
     obtain ⟨h2, e⟩ := hCm j hj
     rw [e]
     exact HNO.out _ h2 (by omega) (by rw [HNL.out]; exact h2)
    have htg := toggle_at (A := L.take a) (l := L[a].2) hnoC
    have hLe : L.take a ++ (k, L[a].2) :: C = L := by
     rw [hC]
     conv => rhs; rw [ops_at haL]
     rw [← hka]
    rw [hLe, ← hcN] at htg
    have hrl : L.reverse.length = i := by rw [List.length_reverse, HNL.out]
    have hel := fun j (h : j < i) => endN_length j L.reverse (by rw [hrl]; exact h)
    rw [hrl] at hel
    have htot := fun j => Nat.le_trans (tot_endN j L.reverse) HT.out
    have HTOT := Lib.hid htot
    have HEL := Lib.hid hel
    have HTG := Lib.hid htg
    have HCM := Lib.hid hCm
    have HCN := Lib.hid hcN
    have ha0 : (0 : Nat) < a := by omega
    have g0 : ((a : Int) == 0) = false := by simp; omega
    have g0' : (a == 0) = false := by simp; omega
    clear hq0 hC hcN hCm hnoC htg hLe hrl hel htot HAK HNO H0 ha hka
    go_wp2_with fail
    go_loopg [6, 7] (cN + 1) (fun gg s6 s7 wr => ∃ m : Nat, m ≤ cN ∧ cN < m + gg ∧ s7 = .int .i64 ((a + 1 + m : Nat) : Int) ∧ NOwn w1.heap.size wr s6 ((C.take m).map (·.1)) ∧ Below w1.heap.size w1 wr)
    case atStart => exact ⟨0, by omega, by omega, by go_num, NOwn.nil _ _, Below.refl _ _⟩
    case round =>
     obtain ⟨m, hm, hgm, rfl, hown, hbw⟩ := hrel
     have hbz := hbw.size
     have hKr := HK1.out.on hbw
     obtain ⟨d0, d1⟩ := hKr.two
     have hdl := hKr.lt
     by_cases hmc : m < cN
     ·have hmC : m < C.length := by rw [← HCN.out]; exact hmc
      obtain ⟨h2, hce⟩ := HCM.out m hmC
      have ci := (hbw.cell (p := ⟨b, o + (a + 1 + m) * 2, none⟩) hbl1).trans (HC1.out _ h2)
      rw [← hce] at ci
      obtain ⟨x, hx⟩ : ∃ x, x = C[m].1 := ⟨_, rfl⟩
      rw [← hx] at ci
      have htk : (C.take m).map (·.1) ++ [x] = (C.take (m + 1)).map (·.1) := by
       rw [List.take_add_one, List.getElem?_eq_getElem hmC, hx, List.map_append]; rfl
      have hlen : ((C.take m).map (·.1)).length ≤ 1000 := by simp; omega
      have HTK := Lib.hid htk
      have HLEN := Lib.hid hlen
      have HOA := Lib.hid (hown.below (below_new0 wr (.cells #[.int .i64 x] 3)))
      have HSB := Lib.hid (src_num wr 3 x)
      have HBW := Lib.hid hbw
      obtain ⟨u, hu⟩ : ∃ u, u = a + 1 + m := ⟨_, rfl⟩
      rw [← hu] at ci ⊢
      have hui : u < i := by omega
      have g1 : decide ((u : Int) < (i : Int)) = true := decide_eq_true (by omega)
      have g1' : decide (u < i) = true := decide_eq_true hui
      have hi0 : (0 : Int) ≤ (u : Int) := by omega
      have hi2 : (u : Int) < (i : Int) := by omega
      have HU := Lib.hid hu
      have hgl' := hKr.lt
      clear hown hbw h2 hce hx htk hlen hu hKr hmC
      go_wp2_with (at_builtin; go_must (refine append_nums _ rfl _ _ rfl HOA.out rfl HSB.out rfl (by have := HLEN.out; simp; omega) (by simp; omega) ?_); intro v' w3 hown3 hgr hat)
      have HOW3 := Lib.hid hown3
      have HB3 := Lib.hid (below_nums (HBW.out.trans ((below_new0 wr _).mono hbz)) HOA.out hgr (by simp; omega))
      clear hown3 hgr hat
      go_wp2_with fail
      go_roundg (cN - m)
      case measure => omega
      case rel => exact ⟨m + 1, by omega, by omega, by rw [HU.out]; go_num, by rw [← HTK.out]; exact HOW3.out, HB3.out⟩
     ·have hmm : m = cN := by omega
      subst hmm
      have HLC := Lib.hid hlC
      obtain ⟨u, hu⟩ : ∃ u, u = a + 1 + m := ⟨_, rfl⟩
      rw [← hu]
      have g1 : decide ((u : Int) < (i : Int)) = false := decide_eq_false (by omega)
      have g1' : decide (u < i) = false := decide_eq_false (by omega)
      clear hlC hu
      obtain ⟨cs, hcs⟩ : ∃ cs, cs = C.map (·.1) := ⟨_, rfl⟩
      have hown : NOwn w1.heap.size wr u6 cs := by
       rw [hcs]
       rw [HCN.out, List.take_length] at hown
       exact hown
      have hcl : cs.length = m := by rw [hcs, List.length_map, HCN.out]
      have htg := HTG.out
      rw [← hcs] at htg
      have HTG2 := Lib.hid htg
      have HCL := Lib.hid hcl
      have hst : Step g w1 wr := Step.of_below hbw (by omega)
      have hrs : RS B g wr (endN 0 L.reverse).reverse false := by
       have h1 : RS B g w1 L false := ⟨some ⟨b, o, none⟩, c, by rw [← HNL.out]; exact HK1.out, by rw [← HNL.out]; exact HS1.out⟩
       rw [endN, List.reverse_reverse]
       exact h1.below hbw
      obtain ⟨w2, hw2⟩ : ∃ w2, w2 = wr := ⟨_, rfl⟩
      have HOWN := Lib.hid hown
      have HST := Lib.hid hst
      have HRS := Lib.hid hrs
      clear hown hst hrs hcs HCN HCM HTG htg hcl HC1 HK1 HS1 hKr e0 e1 hbw
      clear hw2
      go_wp2_with fail
      clear d0 d1
      go_loopg [] (m + 2) (fun gg wr => ∃ j t', j ≤ m + 1 ∧ m + 1 < j + gg ∧ RS B g wr (endN j L.reverse).reverse t' ∧ NOwn w1.heap.size wr u6 cs ∧ Step g w1 wr)
      case atStart => exact ⟨0, false, by omega, by omega, HRS.out, HOWN.out, HST.out⟩
      case round =>
       obtain ⟨j, t', hj, hjg, hrs, hown, hst⟩ := hrel
       have hlC := HLC.out
       have hel := HEL.out j (by omega)
       have hrl : (endN j L.reverse).reverse.length = i - j := by rw [List.length_reverse, hel]
       have hto := HTOT.out j
       have hz := hst.size
       have hC := fun h2 => rend_t B g hBg wr (endN j L.reverse).reverse t' hrs h2 (by rw [hrl]; omega) (by rw [List.reverse_reverse]; exact hto)
       rw [List.reverse_reverse, ← endN_snoc, hrl] at hC
       obtain ⟨p', c', hK', hS'⟩ := hrs
       rw [hrl] at hK' hS'
       obtain ⟨d0, d1⟩ := hK'.two
       have hdl := hK'.lt
       have HOWN := Lib.hid hown
       have HST := Lib.hid hst
       obtain ⟨x, hx⟩ : ∃ x, x = i - j := ⟨_, rfl⟩
       rw [← hx] at d0 hK' hS' hC
       clear hown hst hel hrl hto
       by_cases hjm : j ≤ m
       ·have g2 : decide (a < x) = true := decide_eq_true (by omega)
        have g2' : decide ((a : Int) < (x : Int)) = true := decide_eq_true (by omega)
        have HC := Lib.hid (hC (by omega))
        clear hC hK' hS' hlC hx
        go_wp2_with fail
        refine HC.out.mono ?_
        rintro e w3 ⟨rfl, hS3, t3, hR3⟩
        have hown3 : NOwn w1.heap.size w3 u6 cs := own_on HOWN.out fun q hq => by
         have := World.ownsRow.lt HOWN.out q hq
         exact (hS3.kept q (by omega) this.2).2
        have HO3 := Lib.hid hown3
        have HR3 := Lib.hid hR3
        have HS3 := Lib.hid (HST.out.trans hS3)
        clear hown3 hR3 hS3
        go_wp2_with fail
        go_roundg (m + 1 - j)
        case measure => omega
        case rel => exact ⟨j + 1, t3, by omega, by omega, HR3.out, HO3.out, HS3.out⟩
       ·have hjj : j = m + 1 := by omega
        subst hjj
        have g2 : decide (a < x) = false := decide_eq_false (by omega)
        have g2' : decide ((a : Int) < (x : Int)) = false := decide_eq_false (by omega)
        have hE : (endN (m + 1) L.reverse).reverse.length = x := by rw [List.length_reverse, HEL.out (m + 1) (by omega), hx]
        have hrs : RS B g wr (endN (m + 1) L.reverse).reverse t' := ⟨_, c', by rw [hE]; exact hK', by rw [hE]; exact hS'⟩
        obtain ⟨E, hEE⟩ : ∃ E, E = (endN (m + 1) L.reverse).reverse := ⟨_, rfl⟩
        have htg := HTG2.out
        rw [← hEE] at htg hE hrs
        have hEn : E.length ≤ 1000 := by omega
        have HTG3 := Lib.hid htg
        have HRS := Lib.hid hrs
        have HEN := Lib.hid hEn
        have HM1 : Hid (m ≤ 1000) := Lib.hid (by omega)
        clear HTG2 htg hE hrs hEn hEE hx hlC hC hK' hS' HTOT HEL
        go_wp2_with fail
        clear d0 d1 hdl
        obtain ⟨p6, c6, hu6⟩ := HOWN.out.form
        rw [HCL.out] at hu6
        subst hu6
        go_loopg [8] (m + 1) (fun gg s8 wr => ∃ q t', q ≤ m ∧ m < q + gg ∧ s8 = .int .i64 ((q : Nat) : Int) ∧ RS B g wr (E ++ (cs.take q).map (fun k => (k, Ins.nil))) t' ∧ NOwn w1.heap.size wr (.slice p6 m c6) cs ∧ Step g w1 wr)
        case atStart => exact ⟨0, t', by omega, by omega, rfl, by simpa using HRS.out, HOWN.out, HST.out⟩
        case round =>
         obtain ⟨q, t2, hq, hqg, rfl, hrs, hown, hst⟩ := hrel
         by_cases hqm : q < m
         ·have g3 : decide (q < m) = true := decide_eq_true hqm
          have hqc : q < cs.length := by rw [HCL.out]; exact hqm
          obtain ⟨g6, cap6, h6, hob6, hB6, hl6, hc6, _⟩ := hown.block (by omega)
          injection h6 with h6 h6b h6c
          subst h6
          clear h6b h6c
          have hqb : q ≤ 1000 := by have := HM1.out; omega
          have x6 := hc6 q hqc
          obtain ⟨x, hx⟩ : ∃ x, x = cs[q] := ⟨_, rfl⟩
          rw [← hx] at x6
          obtain ⟨M, hM⟩ : ∃ M, M = E ++ (cs.take q).map (fun k => (k, Ins.nil)) := ⟨_, rfl⟩
          have hM2 : M ++ [(x, Ins.nil)] = E ++ (cs.take (q + 1)).map (fun k => (k, Ins.nil)) := by
           rw [List.take_add_one, List.getElem?_eq_getElem hqc, hx, List.map_append, ← List.append_assoc, ← hM]; rfl
          have hMl : M.length ≤ 2000 := by
           have := HEN.out
           have := HM1.out
           rw [hM, List.length_append, List.length_map, List.length_take]; omega
          rw [← hM] at hrs
          obtain ⟨p', c', hK', hS'⟩ := hrs
          obtain ⟨n', hn'⟩ : ∃ n', n' = M.length := ⟨_, rfl⟩
          rw [← hn'] at hK' hS' hMl
          obtain ⟨d0, d1⟩ := hK'.two
          have df0 := hK'.free 0
          have hdl := hK'.lt
          have hz := hst.size
          obtain ⟨q0, hq0⟩ : ∃ q0 : Nat → Prop, q0 = fun k => kg B g k ∧ k < wr.heap.size := ⟨_, rfl⟩
          have hsl : ∀ W, Below wr.heap.size wr W → stkS.sl (Shp.kind q0 wr.heap.size (.slice none 0 0)) W (.slice p' n' c') M := fun W hW =>
           stkS.sl_on (stkS.sl_on hS' (Kept.mono (q' := Shp.kind q0 wr.heap.size (.slice none 0 0)) fun j hj hl => ⟨.inl (by rw [hq0]; exact ⟨hj, hl⟩), fun e => by cases e⟩)) (Kept.below hW)
          have hlm : stkS.len M = n' := hn'.symm
          have hi0 : (0 : Int) ≤ (q : Int) := by omega
          have hi2 : (q : Int) < (m : Int) := by omega
          have hlx : stkS.app stkS.nil M = M := rfl
          have HSL := Lib.hid hsl
          have HLM := Lib.hid hlm
          have HQ0 := Lib.hid hq0
          have HM2 := Lib.hid hM2
          have HN' := Lib.hid hn'
          have HK' := Lib.hid hK'
          have HOW := Lib.hid hown
          have HS := Lib.hid hst
          have hgw1 : g < w1.heap.size := hgl1
          clear hsl hlm hq0 hM2 hM hn' hK' hS' hown hst hlx hx hc6 hob6 HRS HST HOWN
          go_wp2_with fail
          go_region_law (first
           | (refine step_append_shp stkS tyO _ (by rfl) _ _ (by rfl) (Shp.own.nil (q := q0) (B := wr.heap.size)) (by rfl) (Shp.src_of (HSL.out _ (by first | exact (Below.refl _ _).drew | exact ((Below.refl _ _).alloc (Nat.le_refl _) _).drew))) (by rfl) (by rw [HLM.out]; show (0 + n') * 33 ≤ _; omega) (by simp) ?_; intro v3 w3 hown3 hgr3 hbel3 hkd3
              have hb3 := hbel3 wr (by first | exact (Below.refl _ _).drew | exact ((Below.refl _ _).alloc (Nat.le_refl _) _).drew)
              have hown3 : stkS.own 135 q0 wr.heap.size w3 v3 M := hown3
              have x6 := (hb3.cell (p := ⟨g6, q, none⟩) hl6).trans x6
              have hl6 := Nat.lt_of_lt_of_le hl6 hb3.size
              try have hN3 := known_grown (g := wr.heap.size) (t := 135) (cs := #[.int .i64 x, .slice none 0 0]) (by exact Known.made wr _ _) hgr3 (by simp [Value.ownBlock]))
           | (refine step_append_shp stkS tyO _ (by rfl) _ _ (by rfl) (hown3.below (below_new0 w3 _)) (by rfl) (src_open (Known.made w3 _ _) ins_none) (by rfl) (by rw [HLM.out]; show (n' + 1) * 33 ≤ _; omega) (by have := hb3.size; simp; omega) ?_; intro v4 w4 hown4 hgr4 hbel4 hkd4
              have hb4 := hbel4 wr (hb3.trans ((below_new0 w3 _).mono hb3.size))
              have hown4 : stkS.own 135 q0 wr.heap.size w4 v4 (M ++ [(x, .nil)]) := hown4
              obtain ⟨p4, n4, rfl⟩ := hown4.form
              have hK4 := HK'.out.on hb4
              obtain ⟨d0, d1⟩ := hK4.two
              have df0 := hK4.free 0
              have hdl := hK4.lt)
           | (refine step_append_shp stkS tyO _ (by rfl) _ _ (by rfl) hown3 (by rfl) (src_open hN3 ins_none) (by rfl) (by rw [HLM.out]; show (n' + 1) * 33 ≤ _; omega) hb3.size ?_; intro v4 w4 hown4 hgr4 hbel4 hkd4
              have hb4 := hbel4 wr hb3
              have hown4 : stkS.own 135 q0 wr.heap.size w4 v4 (M ++ [(x, .nil)]) := hown4
              obtain ⟨p4, n4, rfl⟩ := hown4.form
              have hK4 := HK'.out.on hb4
              obtain ⟨d0, d1⟩ := hK4.two
              have df0 := hK4.free 0
              have hdl := hK4.lt))
          all_goals
           have hR4 : RS B g (w4.setCell ⟨g, 0, none⟩ (.slice p4 (stkS.len (M ++ [(x, Ins.nil)])) n4)) (M ++ [(x, .nil)]) t2 := by
            refine ⟨p4, n4, ?_, ?_⟩
            ·exact hK4.put 0 _
            ·refine stkS.sl_on (stkS.sl_on hown4.sl (Kept.mono (q' := (kg B g)) fun j hj _ => ?_)) (Kept.put (fun k hk => hk.2) _ _)
             rw [HQ0.out] at hj
             rcases hj with hj | hj
             ·exact hj.1
             ·exact ⟨by omega, by omega⟩
           have hS4 : Step g wr (w4.setCell ⟨g, 0, none⟩ (.slice p4 (stkS.len (M ++ [(x, Ins.nil)])) n4)) := (Step.of_below hb4 (by omega)).put _ _
           have hO4 : NOwn w1.heap.size (w4.setCell ⟨g, 0, none⟩ (.slice p4 (stkS.len (M ++ [(x, Ins.nil)])) n4)) (.slice (some ⟨g6, 0, none⟩) m c6) cs := own_on HOW.out fun j hj => by
            have := World.ownsRow.lt HOW.out j hj
            exact (hS4.kept j (by omega) this.2).2
           have HR4 := Lib.hid hR4
           have HS4 := Lib.hid hS4
           have HO4 := Lib.hid hO4
           clear hR4 hS4 hO4 hown4 hgr4 hbel4 hkd4 hown3 hgr3 hbel3 hkd3 hK4 d0 d1
           go_wp2_with fail
           go_roundg (m - q)
           case measure => omega
           case rel => exact ⟨q + 1, t2, by omega, by omega, by go_num, by rw [← HM2.out]; exact HR4.out, HO4.out, HS.out.trans HS4.out⟩
         ·have hqq : q = m := by omega
          subst hqq
          have g3 : decide (q < q) = false := by simp
          have hfin : E ++ (cs.take q).map (fun k => (k, Ins.nil)) = (toggle k L.reverse).reverse := by
           rw [HTG3.out, ← HCL.out, List.take_length]
          rw [hfin] at hrs
          obtain ⟨p', c', hK', hS'⟩ := hrs
          obtain ⟨d0, d1⟩ := hK'.two
          have df0 := hK'.free 0
          have df1 := hK'.free 1
          have hdl := hK'.lt
          have HK' := Lib.hid hK'
          have HS' := Lib.hid hS'
          have HST9 := Lib.hid hst
          clear hK' hS' hst hown hfin HRS HST HOWN
          go_wp2_with fail
          go_end0
          refine ⟨rfl, (HST1.out.trans HST9.out).put _ _, ⟨p', c', HK'.out.put 1 (.bool false), stkS.sl_on HS'.out (Kept.put (fun k hk => hk.2) _ _)⟩⟩
end Go.Proofs.YthieinfonomeeaaGreatDoor
