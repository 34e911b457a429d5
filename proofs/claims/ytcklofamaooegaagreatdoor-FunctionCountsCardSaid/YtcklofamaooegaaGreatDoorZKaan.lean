/-
  The claim's own texts, packed. Conditions: those typed in each theorem.
-/
import Derived.Test.YtcklofamaooegaaGreatDoorZKaak
import Derived.Test.YtcklofamaooegaaGreatDoorZKaab
import Derived.Test.YtcklofamaooegaaGreatDoorShelf
set_option maxHeartbeats 4000000
set_option maxRecDepth 10000
set_option linter.unusedVariables false
namespace Go.Proofs.YtcklofamaooegaaGreatDoor
open Go.RowKit
theorem leadB (s : ByteArray) (lo hi : UInt8) : Form.leadR lo hi s.data.toList ≤ s.size := by
 have := Form.leadR_le lo hi s.data.toList
 have e : s.data.toList.length = s.size := by simp
 omega
theorem run_any (s : ByteArray) (lo hi : UInt8) (w : World) (hs : s.size ≤ 1000) :
  Calls Tryz.prog 164 #[.string s, .int .u8 lo.toNat, .int .u8 hi.toNat] w fun e w' => e = .returned (.int .i64 (Form.leadR lo hi s.data.toList)) ∧ w = w' := by
 have hle := leadB s lo hi
 have hin : ∀ k, k < Form.leadR lo hi s.data.toList → ∃ h : k < s.size, lo.toNat ≤ s[k].toNat ∧ s[k].toNat ≤ hi.toNat := by
  intro k hk
  obtain ⟨h1, h2, h3⟩ := Form.leadR_in lo hi _ k hk
  have h4 : k < s.size := by simpa using h1
  refine ⟨h4, ?_⟩
  rw [Num.at_list s k h4]
  exact ⟨UInt8.le_iff_toNat_le.1 h2, UInt8.le_iff_toNat_le.1 h3⟩
 have hend : ∀ h : Form.leadR lo hi s.data.toList < s.size, s[Form.leadR lo hi s.data.toList].toNat < lo.toNat ∨ lo.toNat ≤ s[Form.leadR lo hi s.data.toList].toNat ∧ hi.toNat < s[Form.leadR lo hi s.data.toList].toNat := by
  intro h
  have h1 := Form.leadR_end lo hi s.data.toList (by simpa using h)
  rw [Num.at_list s _ h]
  simp only [UInt8.le_iff_toNat_le] at h1
  omega
 have hlo := lo.toNat_lt
 have hhi := hi.toNat_lt
 generalize Form.leadR lo hi s.data.toList = L at *
 generalize lo.toNat = a at *
 generalize hi.toNat = c at *
 go_enter Tryz.func164, Tryz.ntmps164
 go_wp2_with fail
 go_loopg [7] (L + 1) (fun g s7 wr => ∃ k : Nat, k ≤ L ∧ L - k < g ∧ s7 = .int .i64 k ∧ w = wr)
 case atStart => exact ⟨0, by omega, by omega, rfl, rfl⟩
 case round =>
  obtain ⟨k, hk, hg, rfl, rfl⟩ := hrel
  by_cases h : k < L
  ·obtain ⟨h1, h2, h3⟩ := hin k h
   clear hin hend
   have g2 : decide (a ≤ s[k].toNat) = true := by simpa using h2
   have g3 : decide (s[k].toNat ≤ c) = true := by simpa using h3
   go_wp2_with fail
   go_roundg (L - (k + 1) + 1)
   case measure => omega
   case rel => exact ⟨k + 1, by omega, by omega, rfl, rfl⟩
  ·obtain rfl : k = L := by omega
   clear hin
   by_cases h1 : k < s.size
   ·rcases hend h1 with h2 | ⟨h2, h3⟩
    ·clear hend
     have g2 : decide (a ≤ s[k].toNat) = false := by simp; omega
     go_wp2_with fail
     go_ret
     exact ⟨rfl, rfl⟩
    ·clear hend
     have g2 : decide (a ≤ s[k].toNat) = true := by simpa using h2
     have g3 : decide (s[k].toNat ≤ c) = false := by simp; omega
     go_wp2_with fail
     go_ret
     exact ⟨rfl, rfl⟩
   ·clear hend
    go_wp2_with fail
    go_ret
    exact ⟨rfl, rfl⟩
theorem list_ne {a : ByteArray} {l : List UInt8} (h : ¬ a.data.toList = l) : (a.toList == l) = false := by
 rw [beq_eq_false_iff_ne, ByteArray.toList_eq]
 exact h
theorem isWord_yes (s : ByteArray) (w : World) (h : s.data.toList ∈ Form.words) :
  Calls Tryz.prog 165 #[.string s] w fun e w' => e = .returned (.bool true) ∧ w = w' := by
 have hx : s = ⟨#[109, 111, 100]⟩ ∨ s = ⟨#[97, 110, 100]⟩ ∨ s = ⟨#[111, 114]⟩ ∨ s = ⟨#[110, 111, 116]⟩ ∨ s = ⟨#[114, 111, 117, 110, 100]⟩ ∨ s = ⟨#[102, 108, 111, 111, 114]⟩ := by
  simp only [Form.words, List.mem_cons, List.not_mem_nil, or_false] at h
  rcases h with h | h | h | h | h | h
  ·exact .inl (ByteArray.ext (Array.toList_inj.1 h))
  ·exact .inr (.inl (ByteArray.ext (Array.toList_inj.1 h)))
  ·exact .inr (.inr (.inl (ByteArray.ext (Array.toList_inj.1 h))))
  ·exact .inr (.inr (.inr (.inl (ByteArray.ext (Array.toList_inj.1 h)))))
  ·exact .inr (.inr (.inr (.inr (.inl (ByteArray.ext (Array.toList_inj.1 h))))))
  ·exact .inr (.inr (.inr (.inr (.inr (ByteArray.ext (Array.toList_inj.1 h))))))
 clear h
 rcases hx with rfl | rfl | rfl | rfl | rfl | rfl
 all_goals
  go_enter Tryz.func165, Tryz.ntmps165
  go_wp2_with fail
  go_ret
  exact ⟨rfl, rfl⟩
theorem isWord_no (s : ByteArray) (w : World) (h : s.data.toList ∉ Form.words) :
  Calls Tryz.prog 165 #[.string s] w fun e w' => e = .returned (.bool false) ∧ w = w' := by
 simp only [Form.words, List.mem_cons, List.not_mem_nil, or_false, not_or] at h
 obtain ⟨h1, h2, h3, h4, h5, h6⟩ := h
 replace h1 := list_ne h1
 replace h2 := list_ne h2
 replace h3 := list_ne h3
 replace h4 := list_ne h4
 replace h5 := list_ne h5
 replace h6 := list_ne h6
 go_enter Tryz.func165, Tryz.ntmps165
 go_wp2_with fail
 go_ret
 exact ⟨rfl, rfl⟩
theorem hasP2 (l : List UInt8) (a b : UInt8) : Lib.hasPrefix l [a, b] = decide (l.take 2 = [a, b]) := by
 cases l with
 | nil => simp [Lib.hasPrefix]
 | cons c l => cases l with
   | nil => simp [Lib.hasPrefix, List.isPrefixOf]
   | cons d l => simp [Lib.hasPrefix]; grind
theorem indexB_mem (l : List UInt8) (c : UInt8) : -1 ≤ Lib.indexByte l c ∧ (0 ≤ Lib.indexByte l c ↔ c ∈ l) := by
 induction l with
 | nil => simp [Lib.indexByte]
 | cons b l ih =>
   obtain ⟨h1, h2⟩ := ih
   unfold Lib.indexByte
   by_cases hb : b = c
   ·subst hb; simp
   ·have hb' : ¬ c = b := fun e => hb e.symm
    by_cases h : Lib.indexByte l c = -1
    ·simp [hb, hb', h]; intro hc; have := h2.2 hc; omega
    ·simp [hb, hb', h]; refine ⟨by omega, ?_⟩; rw [← h2]; omega
abbrev NextR (s : ByteArray) (w : World) (n : Nat) : Prop := Calls Tryz.prog 109 #[.string s] w fun e w' => e = .returned (.int .i64 n) ∧ w = w'
abbrev RunR (s : ByteArray) (a b : Int) (n : Nat) : Prop := ∀ w, Calls Tryz.prog 164 #[.string s, .int .u8 a, .int .u8 b] w fun e w' => e = .returned (.int .i64 n) ∧ w = w'
theorem next_long (s : ByteArray) (n : Nat) (w : World) (hs : s.size ≤ 1000) (hR : RunR s 48 57 n) (h9 : 9 < n) (hn : n ≤ 1000) : NextR s w 0 := by
 unfold RunR at hR
 go_enter Tryz.func109, Tryz.ntmps109
 go_wp2_with fail
 refine (hR _).mono ?_
 rintro e w1 ⟨rfl, rfl⟩
 go_wp2_with fail
 go_ret
 exact ⟨rfl, rfl⟩
theorem next_end (s : ByteArray) (n : Nat) (w : World) (hs : s.size ≤ 1000) (hR : RunR s 48 57 n) (h0 : 0 < n) (h9 : n ≤ 9) (hn : s.size ≤ n) : NextR s w n := by
 unfold RunR at hR
 go_enter Tryz.func109, Tryz.ntmps109
 go_wp2_with fail
 refine (hR _).mono ?_
 rintro e w1 ⟨rfl, rfl⟩
 go_wp2_with fail
 go_ret
 exact ⟨rfl, rfl⟩
theorem next_int (s : ByteArray) (n : Nat) (w : World) (hs : s.size ≤ 1000) (hR : RunR s 48 57 n) (h0 : 0 < n) (h9 : n ≤ 9) (hn : n < s.size) (hp : ¬ (s[n].toNat : Int) = 46) : NextR s w n := by
 unfold RunR at hR
 have hp' : ((s[n].toNat : Int) == 46) = false := by simpa using hp
 go_enter Tryz.func109, Tryz.ntmps109
 go_wp2_with fail
 refine (hR _).mono ?_
 rintro e w1 ⟨rfl, rfl⟩
 go_wp2_with fail
 go_ret
 exact ⟨rfl, rfl⟩
theorem next_dec (s Q : ByteArray) (n m v : Nat) (w : World) (hs : s.size ≤ 1000) (hR : RunR s 48 57 n) (h0 : 0 < n) (h9 : n ≤ 9) (hn : n < s.size) (hp : (s[n].toNat : Int) = 46) (hQ : s.extract (n + 1) s.size = Q) (hR2 : RunR Q 48 57 m) (hm : m ≤ 1000)
  (hv : 9 < m ∧ v = 0 ∨ m ≤ 9 ∧ 0 < m ∧ v = n + 1 + m ∨ m = 0 ∧ v = n) : NextR s w v := by
 unfold RunR at hR hR2
 rcases hv with ⟨a, rfl⟩ | ⟨a, b, rfl⟩ | ⟨rfl, rfl⟩
 all_goals
  go_enter Tryz.func109, Tryz.ntmps109
  go_wp2_with fail
  refine (hR _).mono ?_
  rintro e w1 ⟨rfl, rfl⟩
  go_wp2_with fail
  refine (hR2 _).mono ?_
  rintro e w1 ⟨rfl, rfl⟩
  go_wp2_with fail
  go_ret
  exact ⟨by go_num, rfl⟩
theorem next_word (s Q : ByteArray) (k v : Nat) (b : Bool) (w : World) (hs : s.size ≤ 1000) (hR : RunR s 48 57 0) (hR2 : RunR s 97 122 k) (h0 : 0 < k) (hk : k ≤ s.size) (hQ : s.extract 0 k = Q)
  (hW : ∀ w, Calls Tryz.prog 165 #[.string Q] w fun e w' => e = .returned (.bool b) ∧ w = w') (hv : v = if b = true then k else 0) : NextR s w v := by
 unfold RunR at hR hR2
 subst hv
 cases b
 all_goals
  go_enter Tryz.func109, Tryz.ntmps109
  go_wp2_with fail
  refine (hR _).mono ?_
  rintro e w1 ⟨rfl, rfl⟩
  go_wp2_with fail
  refine (hR2 _).mono ?_
  rintro e w1 ⟨rfl, rfl⟩
  go_wp2_with fail
  refine (hW _).mono ?_
  rintro e w1 ⟨rfl, rfl⟩
  go_wp2_with fail
  go_ret
  exact ⟨rfl, rfl⟩
abbrev HasR (s p : ByteArray) (b : Bool) : Prop := ∀ w, Calls Tryz.prog 166 #[.string s, .string p] w fun e w' => e = .returned (.bool b) ∧ w' = w
theorem next_pair (s : ByteArray) (b1 b2 b3 : Bool) (w : World) (hs : s.size ≤ 1000) (hR : RunR s 48 57 0) (hR2 : RunR s 97 122 0) (h1 : HasR s ⟨#[60, 61]⟩ b1) (h2 : HasR s ⟨#[62, 61]⟩ b2) (h3 : HasR s ⟨#[60, 62]⟩ b3)
  (h : b1 = true ∨ b1 = false ∧ b2 = true ∨ b1 = false ∧ b2 = false ∧ b3 = true) : NextR s w 2 := by
 unfold RunR at hR hR2
 unfold HasR at h1 h2 h3
 rcases h with rfl | ⟨rfl, rfl⟩ | ⟨rfl, rfl, rfl⟩
 all_goals
  go_enter Tryz.func109, Tryz.ntmps109
  go_wp2_with fail
  refine (hR _).mono ?_
  rintro e w1 ⟨rfl, rfl⟩
  go_wp2_with fail
  refine (hR2 _).mono ?_
  rintro e w1 ⟨rfl, rfl⟩
  go_wp2_with fail
  repeat (first | (refine (h1 _).mono ?_; rintro e w1 ⟨rfl, rfl⟩; go_wp2_with fail) | (refine (h2 _).mono ?_; rintro e w1 ⟨rfl, rfl⟩; go_wp2_with fail) | (refine (h3 _).mono ?_; rintro e w1 ⟨rfl, rfl⟩; go_wp2_with fail))
  go_ret
  exact ⟨rfl, rfl⟩
theorem next_one (s : ByteArray) (i : Int) (v : Nat) (w : World) (hs : s.size ≤ 1000) (h0 : 0 < s.size) (hR : RunR s 48 57 0) (hR2 : RunR s 97 122 0) (h1 : HasR s ⟨#[60, 61]⟩ false) (h2 : HasR s ⟨#[62, 61]⟩ false) (h3 : HasR s ⟨#[60, 62]⟩ false)
  (hI : ∀ w, Calls Tryz.prog 127 #[.string ⟨#[43, 45, 42, 47, 94, 40, 41, 61, 60, 62]⟩, .int .u8 s[0].toNat] w fun e w' => e = .returned (.int .i64 i) ∧ w' = w) (hi : 0 ≤ i ∧ v = 1 ∨ i < 0 ∧ v = 0) : NextR s w v := by
 unfold RunR at hR hR2
 unfold HasR at h1 h2 h3
 rcases hi with ⟨hi, rfl⟩ | ⟨hi, rfl⟩
 all_goals
  go_enter Tryz.func109, Tryz.ntmps109
  go_wp2_with fail
  refine (hR _).mono ?_
  rintro e w1 ⟨rfl, rfl⟩
  go_wp2_with fail
  refine (hR2 _).mono ?_
  rintro e w1 ⟨rfl, rfl⟩
  go_wp2_with fail
  refine (h1 _).mono ?_
  rintro e w1 ⟨rfl, rfl⟩
  go_wp2_with fail
  refine (h2 _).mono ?_
  rintro e w1 ⟨rfl, rfl⟩
  go_wp2_with fail
  refine (h3 _).mono ?_
  rintro e w1 ⟨rfl, rfl⟩
  go_wp2_with fail
  refine (hI _).mono ?_
  rintro e w1 ⟨rfl, rfl⟩
  go_wp2_with fail
  go_ret
  exact ⟨rfl, rfl⟩
theorem next_any (s : ByteArray) (w : World) (hs : s.size ≤ 1000) (h0 : 0 < s.size) : NextR s w (Form.next s.data.toList) := by
 have R1 : RunR s 48 57 (Form.leadR 48 57 s.data.toList) := fun w => run_any s 48 57 w hs
 have R2 : RunR s 97 122 (Form.leadR 97 122 s.data.toList) := fun w => run_any s 97 122 w hs
 have L1 := leadB s 48 57
 have L2 := leadB s 97 122
 have el : s.data.toList.length = s.size := by simp
 unfold Form.next
 simp only
 by_cases n0 : 0 < Form.leadR 48 57 s.data.toList
 ·rw [if_pos n0]
  by_cases n9 : 9 < Form.leadR 48 57 s.data.toList
  ·rw [if_pos n9]
   exact next_long s _ w hs R1 n9 (by omega)
  ·rw [if_neg n9]
   by_cases hn : Form.leadR 48 57 s.data.toList < s.size
   ·have hh : (s.data.toList.drop (Form.leadR 48 57 s.data.toList)).head? = some s[Form.leadR 48 57 s.data.toList] := by
     rw [List.head?_drop, List.getElem?_eq_getElem (by omega), Num.at_list s _ hn]
    rw [hh]
    by_cases hp : s[Form.leadR 48 57 s.data.toList] = 46
    ·rw [if_pos (by rw [hp])]
     have hQ : (s.extract (Form.leadR 48 57 s.data.toList + 1) s.size).data.toList = s.data.toList.drop (Form.leadR 48 57 s.data.toList + 1) := by
      simp [List.take_of_length_le]
     have R3 : RunR (s.extract (Form.leadR 48 57 s.data.toList + 1) s.size) 48 57 (Form.leadR 48 57 (s.data.toList.drop (Form.leadR 48 57 s.data.toList + 1))) := by
      intro w
      rw [← hQ]
      exact run_any _ 48 57 w (by rw [ByteArray.size_extract]; omega)
     have L3 := Form.leadR_le 48 57 (s.data.toList.drop (Form.leadR 48 57 s.data.toList + 1))
     rw [List.length_drop] at L3
     refine next_dec s _ _ _ _ w hs R1 n0 (by omega) hn (by rw [hp]; rfl) rfl R3 (by omega) ?_
     split
     ·rename_i h; exact .inl ⟨h, rfl⟩
     ·split
      ·rename_i h h'; exact .inr (.inl ⟨by omega, h', rfl⟩)
      ·rename_i h h'; exact .inr (.inr ⟨by omega, rfl⟩)
    ·rw [if_neg (by simpa using hp)]
     refine next_int s _ w hs R1 n0 (by omega) hn (fun e => hp ?_)
     apply UInt8.toNat_inj.1
     show _ = 46
     omega
   ·have hh : (s.data.toList.drop (Form.leadR 48 57 s.data.toList)).head? = none := by
     rw [List.head?_drop, List.getElem?_eq_none (by omega)]
    rw [hh, if_neg (by simp)]
    exact next_end s _ w hs R1 n0 (by omega) (by omega)
 ·rw [if_neg n0]
  replace R1 : RunR s 48 57 0 := by rw [show Form.leadR 48 57 s.data.toList = 0 by omega] at R1; exact R1
  by_cases k0 : 0 < Form.leadR 97 122 s.data.toList
  ·rw [if_pos k0]
   have hQ : (s.extract 0 (Form.leadR 97 122 s.data.toList)).data.toList = s.data.toList.take (Form.leadR 97 122 s.data.toList) := by simp
   by_cases hw : s.data.toList.take (Form.leadR 97 122 s.data.toList) ∈ Form.words
   ·rw [if_pos hw]
    exact next_word s _ _ _ true w hs R1 R2 k0 (by omega) rfl (fun w => isWord_yes _ w (by rw [hQ]; exact hw)) rfl
   ·rw [if_neg hw]
    exact next_word s _ _ _ false w hs R1 R2 k0 (by omega) rfl (fun w => isWord_no _ w (by rw [hQ]; exact hw)) rfl
  ·rw [if_neg k0]
   replace R2 : RunR s 97 122 0 := by rw [show Form.leadR 97 122 s.data.toList = 0 by omega] at R2; exact R2
   have H1 : HasR s ⟨#[60, 61]⟩ (decide (s.data.toList.take 2 = [60, 61])) := fun w => hasP2 s.data.toList 60 61 ▸ Tryz.strings_HasPrefix s ⟨#[60, 61]⟩ w
   have H2 : HasR s ⟨#[62, 61]⟩ (decide (s.data.toList.take 2 = [62, 61])) := fun w => hasP2 s.data.toList 62 61 ▸ Tryz.strings_HasPrefix s ⟨#[62, 61]⟩ w
   have H3 : HasR s ⟨#[60, 62]⟩ (decide (s.data.toList.take 2 = [60, 62])) := fun w => hasP2 s.data.toList 60 62 ▸ Tryz.strings_HasPrefix s ⟨#[60, 62]⟩ w
   by_cases hp : s.data.toList.take 2 ∈ Form.pairs
   ·rw [if_pos hp]
    refine next_pair s _ _ _ w hs R1 R2 H1 H2 H3 ?_
    simp only [Form.pairs, List.mem_cons, List.not_mem_nil, or_false] at hp
    simp only [decide_eq_true_eq, decide_eq_false_iff_not]
    grind
   ·rw [if_neg hp]
    simp only [Form.pairs, List.mem_cons, List.not_mem_nil, or_false, not_or] at hp
    rw [decide_eq_false hp.1] at H1
    rw [decide_eq_false hp.2.1] at H2
    rw [decide_eq_false hp.2.2] at H3
    have e0 : (s[0].toNat : Int).toNat.toUInt8 = s[0] := by simp
    have hI : ∀ w, Calls Tryz.prog 127 #[.string ⟨#[43, 45, 42, 47, 94, 40, 41, 61, 60, 62]⟩, .int .u8 s[0].toNat] w fun e w' => e = .returned (.int .i64 (Lib.indexByte [43, 45, 42, 47, 94, 40, 41, 61, 60, 62] s[0])) ∧ w' = w := by
     intro w
     have := Tryz.strings_IndexByte ⟨#[43, 45, 42, 47, 94, 40, 41, 61, 60, 62]⟩ s[0].toNat w
     rw [e0] at this
     exact this
    obtain ⟨i1, i2⟩ := indexB_mem [43, 45, 42, 47, 94, 40, 41, 61, 60, 62] s[0]
    refine next_one s _ _ w hs h0 R1 R2 H1 H2 H3 hI ?_
    have hh : s.data.toList.head? = some s[0] := by
     cases hl : s.data.toList with
     | nil => rw [hl] at el; simp at el; omega
     | cons c r => rw [Num.at_list s 0 h0]; simp only [hl, List.getElem_cons_zero, List.head?_cons]
    rw [hh, Option.any_some]
    by_cases hm : s[0] ∈ Form.singles
    ·rw [if_pos (by simpa using hm)]
     exact .inl ⟨i2.2 hm, rfl⟩
    ·rw [if_neg (by simpa using hm)]
     refine .inr ⟨?_, rfl⟩
     have := mt i2.1 hm
     exact Int.not_le.1 this
end Go.Proofs.YtcklofamaooegaaGreatDoor
