/-
  The claim's own texts, packed. Conditions: those typed in each theorem.
-/
import Derived.Test.YtcklofamaooegaaGreatDoorZKaab
import Derived.Test.YtcklofamaooegaaGreatDoorZKaay
set_option maxHeartbeats 4000000
set_option maxRecDepth 10000
set_option linter.unusedVariables false
namespace Go.Proofs.YtcklofamaooegaaGreatDoor
open Go.RowKit
theorem digitsP (s : ByteArray) (w : World) (hs : s.size ≤ 1000) :
  Calls Tryz.prog 170 #[.string s] w fun e w' => e = .returned (.int .i64 (Num.endD s 0)) ∧ w = w' := by
 have hle := Num.endD_le s 0 (by omega)
 have hin := fun k => Num.endD_in s 0 k (by omega)
 have hend := Num.endD_end s 0
 generalize Num.endD s 0 = L at *
 go_enter Tryz.func170, Tryz.ntmps170
 go_wp2_with fail
 go_loopg [3] (L + 1) (fun g s3 wr => ∃ k : Nat, k ≤ L ∧ L - k < g ∧ s3 = .int .i64 k ∧ w = wr)
 case atStart => exact ⟨0, by omega, by omega, rfl, rfl⟩
 case round =>
  obtain ⟨k, hk, hg, rfl, rfl⟩ := hrel
  by_cases h : k < L
  ·obtain ⟨h1, h2, h3⟩ := hin k h
   clear hin hend
   have g2 : decide (48 ≤ s[k].toNat) = true := by simpa using h2
   have g3 : decide (s[k].toNat ≤ 57) = true := by simpa using h3
   go_wp2_with fail
   go_roundg (L - (k + 1) + 1)
   case measure => omega
   case rel => exact ⟨k + 1, by omega, by omega, rfl, rfl⟩
  ·obtain rfl : k = L := by omega
   clear hin
   by_cases h1 : k < s.size
   ·have h2 := hend h1
    clear hend
    by_cases h3 : s[k].toNat < 48
    ·have g2 : decide (48 ≤ s[k].toNat) = false := by simpa using h3
     go_wp2_with fail
     go_ret
     exact ⟨rfl, rfl⟩
    ·have g2 : decide (48 ≤ s[k].toNat) = true := by simpa using h3
     have g3 : decide (s[k].toNat ≤ 57) = false := by simp; omega
     go_wp2_with fail
     go_ret
     exact ⟨rfl, rfl⟩
   ·clear hend
    go_wp2_with fail
    go_ret
    exact ⟨rfl, rfl⟩
theorem digitsR (s : ByteArray) (i : Nat) (w : World) (hs : s.size ≤ 1000) (hi : i ≤ s.size) :
  Calls Tryz.prog 201 #[.string s, .int .i64 i] w fun e w' => e = .returned (.int .i64 (Num.endD s i)) ∧ w = w' := by
 have hle := Num.endD_le s i hi
 have hin := Num.endD_in s i
 have hend := Num.endD_end s i
 have h0 : i ≤ Num.endD s i := by unfold Num.endD; omega
 generalize Num.endD s i = L at *
 go_enter Tryz.func201, Tryz.ntmps201
 go_wp2_with fail
 go_loopg [1] (L + 1) (fun g s3 wr => ∃ k : Nat, i ≤ k ∧ k ≤ L ∧ L - k < g ∧ s3 = .int .i64 k ∧ w = wr)
 case atStart => exact ⟨i, by omega, by omega, by omega, rfl, rfl⟩
 case round =>
  obtain ⟨k, hk0, hk, hg, rfl, rfl⟩ := hrel
  by_cases h : k < L
  ·obtain ⟨h1, h2, h3⟩ := hin k hk0 h
   clear hin hend
   have g2 : decide (48 ≤ s[k].toNat) = true := by simpa using h2
   have g3 : decide (s[k].toNat ≤ 57) = true := by simpa using h3
   go_wp2_with fail
   go_roundg (L - (k + 1) + 1)
   case measure => omega
   case rel => exact ⟨k + 1, by omega, by omega, by omega, rfl, rfl⟩
  ·obtain rfl : k = L := by omega
   clear hin
   by_cases h1 : k < s.size
   ·have h2 := hend h1
    clear hend
    by_cases h3 : s[k].toNat < 48
    ·have g2 : decide (48 ≤ s[k].toNat) = false := by simpa using h3
     go_wp2_with fail
     go_ret
     exact ⟨rfl, rfl⟩
    ·have g2 : decide (48 ≤ s[k].toNat) = true := by simpa using h3
     have g3 : decide (s[k].toNat ≤ 57) = false := by simp; omega
     go_wp2_with fail
     go_ret
     exact ⟨rfl, rfl⟩
   ·clear hend
    go_wp2_with fail
    go_ret
    exact ⟨rfl, rfl⟩
theorem valueR (s : ByteArray) (w : World) (hs : s.size ≤ 18) (hd : ∀ c ∈ s.data.toList, Num.isD c = true) :
  Calls Tryz.prog 203 #[.string s] w fun e w' => e = .returned (.int .i64 (Num.value 0 s.data.toList)) ∧ w = w' := by
 have hl : s.data.toList.length = s.size := by simp
 have hb : ∀ k, k < s.size → Num.value 0 (s.data.toList.take k) < 100000000000000000 := by
  intro k hk
  have := Num.value_lt (l := s.data.toList.take k) (fun c hc => hd c (List.mem_of_mem_take hc)) 0
  have h2 : 10 ^ (s.data.toList.take k).length ≤ 10 ^ 17 := Nat.pow_le_pow_right (by omega) (by rw [List.length_take]; omega)
  omega
 have hst : ∀ k (h : k < s.size), Num.value 0 (s.data.toList.take (k + 1)) = Num.value 0 (s.data.toList.take k) * 10 + (s[k].toNat - 48) ∧ 48 ≤ s[k].toNat ∧ s[k].toNat ≤ 57 := by
  intro k h
  have e : s.data.toList.take (k + 1) = s.data.toList.take k ++ [s[k]] := by
   rw [Num.at_list s k h]
   exact (List.take_append_getElem (by omega)).symm
  refine ⟨by rw [e, Num.value_snoc], ?_⟩
  exact Num.isD_iff.1 (hd _ (by rw [Num.at_list s k h]; exact List.getElem_mem _))
 have hf : Num.value 0 s.data.toList = Num.value 0 (s.data.toList.take s.size) := by rw [List.take_of_length_le (by omega)]
 rw [hf]
 clear hd hl hf
 have h0 : Num.value 0 (s.data.toList.take 0) = 0 := rfl
 generalize hF : (fun k => Num.value 0 (s.data.toList.take k)) = F at *
 have hF' : ∀ k, Num.value 0 (s.data.toList.take k) = F k := fun k => by rw [← hF]
 simp only [hF'] at *
 clear hF hF'
 go_enter Tryz.func203, Tryz.ntmps203
 go_wp2_with fail
 go_loopg [3, 4] (s.size + 1) (fun g s3 s4 wr => ∃ k : Nat, k ≤ s.size ∧ s.size - k < g ∧ s3 = .int .i64 (F k) ∧ s4 = .int .i64 k ∧ w = wr)
 case atStart => exact ⟨0, by omega, by omega, by rw [h0]; rfl, rfl, rfl⟩
 case round =>
  obtain ⟨k, hk, hg, rfl, rfl, rfl⟩ := hrel
  by_cases h : k < s.size
  ·obtain ⟨h1, h2, h3⟩ := hst k h
   have h4 := hb k h
   clear hst hb h0
   go_wp2_with fail
   go_roundg (s.size - (k + 1) + 1)
   case measure => omega
   case rel => exact ⟨k + 1, by omega, by omega, by rw [h1]; congr 1; omega, rfl, rfl⟩
  ·obtain rfl : k = s.size := by omega
   clear hst hb h0
   go_wp2_with fail
   go_ret
   exact ⟨rfl, rfl⟩
end Go.Proofs.YtcklofamaooegaaGreatDoor
