/-
  Parse: one number for all texts, by the program and by the reference. Conditions: those typed in each theorem.
-/
import Derived.Test.YtlkfnpmcihfjmaaGreatDoorEvbc

namespace Go.Proofs.YtlkfnpmcihfjmaaGreatDoor
open Go.RowKit

/-- what Parse returns -/
def resV (neg : Bool) : Option (Nat × Nat) → Int × Int × Int
  | none => (0, 0, 1)
  | some (v, q) => Num.red (if neg = true then -(v : Int) else v) (10 ^ q)
theorem zero_list : (⟨#[]⟩ : ByteArray).size = 0 := rfl
theorem pre_zero (l : List UInt8) (W Q : ByteArray) (h : W.data.toList ++ Q.data.toList = l) : (⟨#[48]⟩ : ByteArray) ++ W ++ Q = ⟨(48 :: l).toArray⟩ := by
  apply ByteArray.ext
  rw [ByteArray.data_append, ByteArray.data_append]
  apply Array.toList_inj.1
  rw [Array.toList_append, Array.toList_append, List.append_assoc, h]
  rfl
theorem W_size (R : ByteArray) (p : Nat) (h : p < R.size) : (R.extract 0 p).size = p := by rw [ByteArray.size_extract]; omega
theorem Q_size (R : ByteArray) (p : Nat) : (R.extract (p + 1) R.size).size = R.size - (p + 1) := by rw [ByteArray.size_extract]; omega

set_option maxHeartbeats 1000000 in
theorem parse_n (s : ByteArray) (hs : s.size ≤ 100) (h0 : 0 < s.size) (hc : ¬ (s[0].toNat : Int) = 43) (hd : ¬ (s[0].toNat : Int) = 45) (o : Option (Nat × Nat)) (hr : Reads s o) :
    Ret 22 #[.string s] (resV false o) ∧ Ret 27 #[.string s] (resV false o) := by
  have hX : s.size ≤ 100 := hs
  have hD : ∀ w, Calls Tryz.prog 58 #[.string s, .int .i64 0] w fun e w' => e = .returned (.int .i64 (Num.endD s 0)) ∧ w = w' := fun w => digitsR s 0 w (by omega) (by omega)
  cases hr with
  | a1 h hd0 hn => exact ⟨fun w => parseP_n_a1 s s ⟨#[]⟩ w hs hX (by decide) h0 hc hd _ hd0 false (fun w => cut_no _ w h) (fun w => digitsP _ w (by omega)), fun w => parseR_n_b1 s w hs h0 hc hd _ hd0 hn hD⟩
  | a2 h hd0 h9 => exact ⟨fun w => parseP_n_a2 s s ⟨#[]⟩ w hs hX (by decide) h0 hc hd h9 false (fun w => cut_no _ w h) (fun w => hd0 ▸ digitsP _ w (by omega)), fun w => parseR_n_b2 s w hs h0 hc hd h9 (fun w => hd0 ▸ hD w)⟩
  | a3 h hz => exact absurd hz (by omega)
  | a4 h hd0 h9 h1 =>
    have hall := endD_all hd0
    have hA : ∀ w, Calls Tryz.prog 38 #[.string (⟨#[48]⟩ ++ s ++ ⟨#[]⟩)] w fun e w' => e = .returned (.tuple #[.int .i64 (Num.value 0 s.data.toList), .nilIface]) ∧ Below w.heap.size w w' := by
      intro w
      rw [pre_zero s.data.toList s ⟨#[]⟩ (by simp)]
      exact atoi_any _ w hall (by rw [list_len]; omega)
    have hv := Num.value_lt hall 0
    have hp : 10 ^ s.data.toList.length ≤ 10 ^ 9 := Nat.pow_le_pow_right (by omega) (by rw [list_len]; exact h9)
    exact ⟨fun w => parseP_n_a4 s s ⟨#[]⟩ w hs hX (by decide) h0 hc hd h9 h1 (by decide) (fun w => cut_no _ w h) (fun w => hd0 ▸ digitsP _ w (by omega)) ((Num.value 0 s.data.toList : Nat) : Int) 1 hA (fun w => power_any 0 w (by omega)) (by omega) (by omega) (by omega) (by omega),
      fun w => parseR_n_b4 s w hs h0 hc hd h9 h1 (fun w => hd0 ▸ hD w) ((Num.value 0 s.data.toList : Nat) : Int) (fun w => valueR _ w (by omega) hall) (by omega) (by omega)⟩
  | d1 p h hp hc1 he hw hn =>
    have z1 := W_size s p hp
    have z2 := Q_size s p
    exact ⟨fun w => parseP_n_a1 s (s.extract 0 p) (s.extract (p + 1) s.size) w hs (by omega) (by omega) h0 hc hd _ (by rw [z1]; exact hw) true (fun w => cut_at _ p w h hp (by omega)) (fun w => digitsP _ w (by omega)), fun w => parseR_n_b1 s w hs h0 hc hd _ (by omega) hn hD⟩
  | d2 p h hp hc1 he hw k hk hq bad =>
    have z1 := W_size s p hp
    have z2 := Q_size s p
    have hcut := fun w => cut_at s p w h hp (by omega)
    have hW : ∀ w, Calls Tryz.prog 37 #[.string (s.extract 0 p)] w fun e w' => e = .returned (.int .i64 (s.extract 0 p).size) ∧ w = w' := fun w => by
      have := digitsP (s.extract 0 p) w (by omega)
      rw [hw] at this
      rw [z1]
      exact this
    have hQ := fun w => digitsP (s.extract (p + 1) s.size) w (by omega)
    have hK : ∀ w, Calls Tryz.prog 58 #[.string s, .int .i64 ((p : Int) + 1)] w fun e w' => e = .returned (.int .i64 k) ∧ w = w' := fun w => hk ▸ digitsR s (p + 1) w (by omega) (by omega)
    have hle := Num.endD_le (s.extract (p + 1) s.size) 0 (by omega)
    rw [he] at hD
    constructor
    · intro w
      by_cases g9 : 9 < p
      · exact parseP_n_a2 s _ _ w hs (by omega) (by omega) h0 hc hd (by rw [z1]; exact g9) true hcut hW
      by_cases g0 : s.size = p + 1
      · exact parseP_n_a7 s _ _ w hs (by omega) (by omega) h0 hc hd (by omega) (by omega) hcut hW
      by_cases gk : k < s.size
      · exact parseP_n_a8 s _ _ w hs (by omega) (by omega) h0 hc hd (by omega) (by omega) _ (by omega) hcut hW hQ
      · have e : Num.endD (s.extract (p + 1) s.size) 0 = (s.extract (p + 1) s.size).size := by omega
        rw [e] at hQ
        exact parseP_n_a9 s _ _ w hs (by omega) (by omega) h0 hc hd (by omega) (by omega) hcut hW hQ
    · intro w
      by_cases gk : k < s.size
      · exact parseR_n_b5 s w hs h0 hc hd p hp hc1 k gk hD hK
      have ek : k = s.size := by omega
      rw [ek] at hK
      by_cases g9 : 9 < p
      · exact parseR_n_b6 s w hs h0 hc hd p hp hc1 g9 hD hK
      by_cases g0 : s.size = p + 1
      · exact parseR_n_b7 s w hs h0 hc hd p hp hc1 (by omega) g0 hD hK
      · exact parseR_n_b8 s w hs h0 hc hd p hp hc1 (by omega) (by omega) hD hK
  | d3 p h hp hc1 he hw hk hq h9 q hz q1 q9 =>
    have z1 := W_size s p hp
    have z2 := Q_size s p
    have hcut := fun w => cut_at s p w h hp (by omega)
    have hW : ∀ w, Calls Tryz.prog 37 #[.string (s.extract 0 p)] w fun e w' => e = .returned (.int .i64 (s.extract 0 p).size) ∧ w = w' := fun w => by
      have := digitsP (s.extract 0 p) w (by omega)
      rw [hw] at this
      rw [z1]
      exact this
    have e : Num.endD (s.extract (p + 1) s.size) 0 = (s.extract (p + 1) s.size).size := by omega
    have hQ := fun w => digitsP (s.extract (p + 1) s.size) w (by omega)
    rw [e] at hQ
    have hK : ∀ w, Calls Tryz.prog 58 #[.string s, .int .i64 ((p : Int) + 1)] w fun e w' => e = .returned (.int .i64 s.size) ∧ w = w' := fun w => hk ▸ digitsR s (p + 1) w (by omega) (by omega)
    rw [he] at hD
    have aW : ∀ c ∈ (s.extract 0 p).data.toList, Num.isD c = true := endD_all (by rw [z1]; exact hw)
    have aQ : ∀ c ∈ (s.extract (p + 1) s.size).data.toList, Num.isD c = true := endD_all e
    have lW := list_len (s.extract 0 p)
    have lQ := list_len (s.extract (p + 1) s.size)
    have vW := Num.value_lt aW 0
    have vQ := Num.value_lt aQ 0
    have hpw : 10 ^ (s.extract 0 p).data.toList.length ≤ 10 ^ 9 := Nat.pow_le_pow_right (by omega) (by omega)
    have hpq : 10 ^ (s.extract (p + 1) s.size).data.toList.length ≤ 10 ^ 9 := Nat.pow_le_pow_right (by omega) (by omega)
    have eq : (s.extract (p + 1) s.size).size = q := by omega
    have hA : ∀ w, Calls Tryz.prog 38 #[.string (⟨#[48]⟩ ++ s.extract 0 p ++ s.extract (p + 1) s.size)] w fun e w' => e = .returned (.tuple #[.int .i64 (Num.value 0 ((s.extract 0 p).data.toList ++ (s.extract (p + 1) s.size).data.toList)), .nilIface]) ∧ Below w.heap.size w w' := by
      intro w
      rw [pre_zero _ _ _ rfl]
      refine atoi_any _ w ?_ (by rw [List.length_append]; omega)
      intro c hcm
      rcases List.mem_append.1 hcm with hcm | hcm
      · exact aW c hcm
      · exact aQ c hcm
    have hval : Num.value 0 ((s.extract 0 p).data.toList ++ (s.extract (p + 1) s.size).data.toList) = Num.value 0 (s.extract 0 p).data.toList * 10 ^ q + Num.value 0 (s.extract (p + 1) s.size).data.toList := by
      rw [Num.value_app, Num.value_acc, lQ, eq]
    have hpb := pow_bd q q9
    have hab : Num.value 0 ((s.extract 0 p).data.toList ++ (s.extract (p + 1) s.size).data.toList) < (0 + 1) * 10 ^ ((s.extract 0 p).data.toList ++ (s.extract (p + 1) s.size).data.toList).length := Num.value_lt (fun c hcm => by
      rcases List.mem_append.1 hcm with hcm | hcm
      · exact aW c hcm
      · exact aQ c hcm) 0
    have hpa : 10 ^ ((s.extract 0 p).data.toList ++ (s.extract (p + 1) s.size).data.toList).length ≤ 10 ^ 18 := Nat.pow_le_pow_right (by omega) (by rw [List.length_append]; omega)
    constructor
    · intro w
      exact parseP_n_a10 s _ _ w hs (by omega) (by omega) h0 hc hd (by omega) (by omega) (by omega) hcut hW hQ ((Num.value 0 ((s.extract 0 p).data.toList ++ (s.extract (p + 1) s.size).data.toList) : Nat) : Int) ((10 : Int) ^ q) hA (fun w => by rw [eq]; exact power_any q w q9) (by omega) (by omega) hpb.1 hpb.2
    · intro w
      have := parseR_n_b9 s w hs h0 hc hd p hp hc1 h9 q q1 q9 hz hD hK (Num.value 0 (s.extract 0 p).data.toList) (Num.value 0 (s.extract (p + 1) s.size).data.toList) ((10 : Int) ^ q) _ _ rfl rfl (fun w => valueR _ w (by omega) aW) (fun w => valueR _ w (by omega) aQ) (fun w => powerRef_any q w q9) (by omega) (by omega) (by omega) (by omega) hpb.1 hpb.2
      rw [show ((Num.value 0 (s.extract 0 p).data.toList : Nat) : Int) * (10 : Int) ^ q + (Num.value 0 (s.extract (p + 1) s.size).data.toList : Nat) = ((Num.value 0 ((s.extract 0 p).data.toList ++ (s.extract (p + 1) s.size).data.toList) : Nat) : Int) by rw [hval]; simp] at this
      exact this
theorem parse_e (s : ByteArray) (hs : s.size ≤ 100) (h0 : s.size = 0) : Ret 22 #[.string s] (0, 0, 1) ∧ Ret 27 #[.string s] (0, 0, 1) := by
  have hi : Lib.indexByte s.data.toList 46 = -1 := by
    have : s.data.toList = [] := List.eq_nil_of_length_eq_zero (by rw [list_len]; exact h0)
    rw [this]; rfl
  have hz : Num.endD s 0 = s.size := by have := Num.endD_le s 0 (by omega); omega
  refine ⟨fun w => parseP_e_a3 s s ⟨#[]⟩ w hs hs (by decide) h0 h0 (fun w => cut_no s w hi) (fun w => hz ▸ digitsP s w (by omega)), fun w => parseR_e_b3 s w hs h0 h0 (fun w => hz ▸ digitsR s 0 w (by omega) (by omega))⟩
set_option maxHeartbeats 1000000 in
theorem parse_p (s : ByteArray) (hs : s.size ≤ 100) (h0 : 0 < s.size) (hc : (s[0].toNat : Int) = 43) (o : Option (Nat × Nat)) (hr : Reads (s.extract 1 s.size) o) :
    Ret 22 #[.string s] (resV false o) ∧ Ret 27 #[.string s] (resV false o) := by
  have hRs : (s.extract 1 s.size).size = s.size - 1 := by rw [ByteArray.size_extract]; omega
  have hX : (s.extract 1 s.size).size ≤ 100 := by omega
  have hD : ∀ w, Calls Tryz.prog 58 #[.string (s.extract 1 s.size), .int .i64 0] w fun e w' => e = .returned (.int .i64 (Num.endD (s.extract 1 s.size) 0)) ∧ w = w' := fun w => digitsR (s.extract 1 s.size) 0 w (by omega) (by omega)
  cases hr with
  | a1 h hd0 hn => exact ⟨fun w => parseP_p_a1 s (s.extract 1 s.size) (s.extract 1 s.size) ⟨#[]⟩ w hs hX (by decide) h0 hc rfl _ hd0 false (fun w => cut_no _ w h) (fun w => digitsP _ w (by omega)), fun w => parseR_p_b1 s (s.extract 1 s.size) w hs h0 hc rfl _ hd0 hn hD⟩
  | a2 h hd0 h9 => exact ⟨fun w => parseP_p_a2 s (s.extract 1 s.size) (s.extract 1 s.size) ⟨#[]⟩ w hs hX (by decide) h0 hc rfl h9 false (fun w => cut_no _ w h) (fun w => hd0 ▸ digitsP _ w (by omega)), fun w => parseR_p_b2 s (s.extract 1 s.size) w hs h0 hc rfl h9 (fun w => hd0 ▸ hD w)⟩
  | a3 h hz =>
    have hd0 : Num.endD (s.extract 1 s.size) 0 = (s.extract 1 s.size).size := by have := Num.endD_le (s.extract 1 s.size) 0 (by omega); omega
    exact ⟨fun w => parseP_p_a3 s (s.extract 1 s.size) (s.extract 1 s.size) ⟨#[]⟩ w hs hX (by decide) h0 hc rfl hz (fun w => cut_no _ w h) (fun w => hd0 ▸ digitsP _ w (by omega)), fun w => parseR_p_b3 s (s.extract 1 s.size) w hs h0 hc rfl hz (fun w => hd0 ▸ hD w)⟩
  | a4 h hd0 h9 h1 =>
    have hall := endD_all hd0
    have hA : ∀ w, Calls Tryz.prog 38 #[.string (⟨#[48]⟩ ++ (s.extract 1 s.size) ++ ⟨#[]⟩)] w fun e w' => e = .returned (.tuple #[.int .i64 (Num.value 0 (s.extract 1 s.size).data.toList), .nilIface]) ∧ Below w.heap.size w w' := by
      intro w
      rw [pre_zero (s.extract 1 s.size).data.toList (s.extract 1 s.size) ⟨#[]⟩ (by simp)]
      exact atoi_any _ w hall (by rw [list_len]; omega)
    have hv := Num.value_lt hall 0
    have hp : 10 ^ (s.extract 1 s.size).data.toList.length ≤ 10 ^ 9 := Nat.pow_le_pow_right (by omega) (by rw [list_len]; exact h9)
    exact ⟨fun w => parseP_p_a4 s (s.extract 1 s.size) (s.extract 1 s.size) ⟨#[]⟩ w hs hX (by decide) h0 hc rfl h9 h1 (by decide) (fun w => cut_no _ w h) (fun w => hd0 ▸ digitsP _ w (by omega)) ((Num.value 0 (s.extract 1 s.size).data.toList : Nat) : Int) 1 hA (fun w => power_any 0 w (by omega)) (by omega) (by omega) (by omega) (by omega),
      fun w => parseR_p_b4 s (s.extract 1 s.size) w hs h0 hc rfl h9 h1 (fun w => hd0 ▸ hD w) ((Num.value 0 (s.extract 1 s.size).data.toList : Nat) : Int) (fun w => valueR _ w (by omega) hall) (by omega) (by omega)⟩
  | d1 p h hp hc1 he hw hn =>
    have z1 := W_size (s.extract 1 s.size) p hp
    have z2 := Q_size (s.extract 1 s.size) p
    exact ⟨fun w => parseP_p_a1 s (s.extract 1 s.size) ((s.extract 1 s.size).extract 0 p) ((s.extract 1 s.size).extract (p + 1) (s.extract 1 s.size).size) w hs (by omega) (by omega) h0 hc rfl _ (by rw [z1]; exact hw) true (fun w => cut_at _ p w h hp (by omega)) (fun w => digitsP _ w (by omega)), fun w => parseR_p_b1 s (s.extract 1 s.size) w hs h0 hc rfl _ (by omega) hn hD⟩
  | d2 p h hp hc1 he hw k hk hq bad =>
    have z1 := W_size (s.extract 1 s.size) p hp
    have z2 := Q_size (s.extract 1 s.size) p
    have hcut := fun w => cut_at (s.extract 1 s.size) p w h hp (by omega)
    have hW : ∀ w, Calls Tryz.prog 37 #[.string ((s.extract 1 s.size).extract 0 p)] w fun e w' => e = .returned (.int .i64 ((s.extract 1 s.size).extract 0 p).size) ∧ w = w' := fun w => by
      have := digitsP ((s.extract 1 s.size).extract 0 p) w (by omega)
      rw [hw] at this
      rw [z1]
      exact this
    have hQ := fun w => digitsP ((s.extract 1 s.size).extract (p + 1) (s.extract 1 s.size).size) w (by omega)
    have hK : ∀ w, Calls Tryz.prog 58 #[.string (s.extract 1 s.size), .int .i64 ((p : Int) + 1)] w fun e w' => e = .returned (.int .i64 k) ∧ w = w' := fun w => hk ▸ digitsR (s.extract 1 s.size) (p + 1) w (by omega) (by omega)
    have hle := Num.endD_le ((s.extract 1 s.size).extract (p + 1) (s.extract 1 s.size).size) 0 (by omega)
    rw [he] at hD
    constructor
    · intro w
      by_cases g9 : 9 < p
      · exact parseP_p_a2 s (s.extract 1 s.size) _ _ w hs (by omega) (by omega) h0 hc rfl (by rw [z1]; exact g9) true hcut hW
      by_cases g0 : (s.extract 1 s.size).size = p + 1
      · exact parseP_p_a7 s (s.extract 1 s.size) _ _ w hs (by omega) (by omega) h0 hc rfl (by omega) (by omega) hcut hW
      by_cases gk : k < (s.extract 1 s.size).size
      · exact parseP_p_a8 s (s.extract 1 s.size) _ _ w hs (by omega) (by omega) h0 hc rfl (by omega) (by omega) _ (by omega) hcut hW hQ
      · have e : Num.endD ((s.extract 1 s.size).extract (p + 1) (s.extract 1 s.size).size) 0 = ((s.extract 1 s.size).extract (p + 1) (s.extract 1 s.size).size).size := by omega
        rw [e] at hQ
        exact parseP_p_a9 s (s.extract 1 s.size) _ _ w hs (by omega) (by omega) h0 hc rfl (by omega) (by omega) hcut hW hQ
    · intro w
      by_cases gk : k < (s.extract 1 s.size).size
      · exact parseR_p_b5 s (s.extract 1 s.size) w hs h0 hc rfl p hp hc1 k gk hD hK
      have ek : k = (s.extract 1 s.size).size := by omega
      rw [ek] at hK
      by_cases g9 : 9 < p
      · exact parseR_p_b6 s (s.extract 1 s.size) w hs h0 hc rfl p hp hc1 g9 hD hK
      by_cases g0 : (s.extract 1 s.size).size = p + 1
      · exact parseR_p_b7 s (s.extract 1 s.size) w hs h0 hc rfl p hp hc1 (by omega) g0 hD hK
      · exact parseR_p_b8 s (s.extract 1 s.size) w hs h0 hc rfl p hp hc1 (by omega) (by omega) hD hK
  | d3 p h hp hc1 he hw hk hq h9 q hz q1 q9 =>
    have z1 := W_size (s.extract 1 s.size) p hp
    have z2 := Q_size (s.extract 1 s.size) p
    have hcut := fun w => cut_at (s.extract 1 s.size) p w h hp (by omega)
    have hW : ∀ w, Calls Tryz.prog 37 #[.string ((s.extract 1 s.size).extract 0 p)] w fun e w' => e = .returned (.int .i64 ((s.extract 1 s.size).extract 0 p).size) ∧ w = w' := fun w => by
      have := digitsP ((s.extract 1 s.size).extract 0 p) w (by omega)
      rw [hw] at this
      rw [z1]
      exact this
    have e : Num.endD ((s.extract 1 s.size).extract (p + 1) (s.extract 1 s.size).size) 0 = ((s.extract 1 s.size).extract (p + 1) (s.extract 1 s.size).size).size := by omega
    have hQ := fun w => digitsP ((s.extract 1 s.size).extract (p + 1) (s.extract 1 s.size).size) w (by omega)
    rw [e] at hQ
    have hK : ∀ w, Calls Tryz.prog 58 #[.string (s.extract 1 s.size), .int .i64 ((p : Int) + 1)] w fun e w' => e = .returned (.int .i64 (s.extract 1 s.size).size) ∧ w = w' := fun w => hk ▸ digitsR (s.extract 1 s.size) (p + 1) w (by omega) (by omega)
    rw [he] at hD
    have aW : ∀ c ∈ ((s.extract 1 s.size).extract 0 p).data.toList, Num.isD c = true := endD_all (by rw [z1]; exact hw)
    have aQ : ∀ c ∈ ((s.extract 1 s.size).extract (p + 1) (s.extract 1 s.size).size).data.toList, Num.isD c = true := endD_all e
    have lW := list_len ((s.extract 1 s.size).extract 0 p)
    have lQ := list_len ((s.extract 1 s.size).extract (p + 1) (s.extract 1 s.size).size)
    have vW := Num.value_lt aW 0
    have vQ := Num.value_lt aQ 0
    have hpw : 10 ^ ((s.extract 1 s.size).extract 0 p).data.toList.length ≤ 10 ^ 9 := Nat.pow_le_pow_right (by omega) (by omega)
    have hpq : 10 ^ ((s.extract 1 s.size).extract (p + 1) (s.extract 1 s.size).size).data.toList.length ≤ 10 ^ 9 := Nat.pow_le_pow_right (by omega) (by omega)
    have eq : ((s.extract 1 s.size).extract (p + 1) (s.extract 1 s.size).size).size = q := by omega
    have hA : ∀ w, Calls Tryz.prog 38 #[.string (⟨#[48]⟩ ++ (s.extract 1 s.size).extract 0 p ++ (s.extract 1 s.size).extract (p + 1) (s.extract 1 s.size).size)] w fun e w' => e = .returned (.tuple #[.int .i64 (Num.value 0 (((s.extract 1 s.size).extract 0 p).data.toList ++ ((s.extract 1 s.size).extract (p + 1) (s.extract 1 s.size).size).data.toList)), .nilIface]) ∧ Below w.heap.size w w' := by
      intro w
      rw [pre_zero _ _ _ rfl]
      refine atoi_any _ w ?_ (by rw [List.length_append]; omega)
      intro c hcm
      rcases List.mem_append.1 hcm with hcm | hcm
      · exact aW c hcm
      · exact aQ c hcm
    have hval : Num.value 0 (((s.extract 1 s.size).extract 0 p).data.toList ++ ((s.extract 1 s.size).extract (p + 1) (s.extract 1 s.size).size).data.toList) = Num.value 0 ((s.extract 1 s.size).extract 0 p).data.toList * 10 ^ q + Num.value 0 ((s.extract 1 s.size).extract (p + 1) (s.extract 1 s.size).size).data.toList := by
      rw [Num.value_app, Num.value_acc, lQ, eq]
    have hpb := pow_bd q q9
    have hab : Num.value 0 (((s.extract 1 s.size).extract 0 p).data.toList ++ ((s.extract 1 s.size).extract (p + 1) (s.extract 1 s.size).size).data.toList) < (0 + 1) * 10 ^ (((s.extract 1 s.size).extract 0 p).data.toList ++ ((s.extract 1 s.size).extract (p + 1) (s.extract 1 s.size).size).data.toList).length := Num.value_lt (fun c hcm => by
      rcases List.mem_append.1 hcm with hcm | hcm
      · exact aW c hcm
      · exact aQ c hcm) 0
    have hpa : 10 ^ (((s.extract 1 s.size).extract 0 p).data.toList ++ ((s.extract 1 s.size).extract (p + 1) (s.extract 1 s.size).size).data.toList).length ≤ 10 ^ 18 := Nat.pow_le_pow_right (by omega) (by rw [List.length_append]; omega)
    constructor
    · intro w
      exact parseP_p_a10 s (s.extract 1 s.size) _ _ w hs (by omega) (by omega) h0 hc rfl (by omega) (by omega) (by omega) hcut hW hQ ((Num.value 0 (((s.extract 1 s.size).extract 0 p).data.toList ++ ((s.extract 1 s.size).extract (p + 1) (s.extract 1 s.size).size).data.toList) : Nat) : Int) ((10 : Int) ^ q) hA (fun w => by rw [eq]; exact power_any q w q9) (by omega) (by omega) hpb.1 hpb.2
    · intro w
      have := parseR_p_b9 s (s.extract 1 s.size) w hs h0 hc rfl p hp hc1 h9 q q1 q9 hz hD hK (Num.value 0 ((s.extract 1 s.size).extract 0 p).data.toList) (Num.value 0 ((s.extract 1 s.size).extract (p + 1) (s.extract 1 s.size).size).data.toList) ((10 : Int) ^ q) _ _ rfl rfl (fun w => valueR _ w (by omega) aW) (fun w => valueR _ w (by omega) aQ) (fun w => powerRef_any q w q9) (by omega) (by omega) (by omega) (by omega) hpb.1 hpb.2
      rw [show ((Num.value 0 ((s.extract 1 s.size).extract 0 p).data.toList : Nat) : Int) * (10 : Int) ^ q + (Num.value 0 ((s.extract 1 s.size).extract (p + 1) (s.extract 1 s.size).size).data.toList : Nat) = ((Num.value 0 (((s.extract 1 s.size).extract 0 p).data.toList ++ ((s.extract 1 s.size).extract (p + 1) (s.extract 1 s.size).size).data.toList) : Nat) : Int) by rw [hval]; simp] at this
      exact this
set_option maxHeartbeats 1000000 in
theorem parse_m (s : ByteArray) (hs : s.size ≤ 100) (h0 : 0 < s.size) (hc : (s[0].toNat : Int) = 45) (o : Option (Nat × Nat)) (hr : Reads (s.extract 1 s.size) o) :
    Ret 22 #[.string s] (resV true o) ∧ Ret 27 #[.string s] (resV true o) := by
  have hRs : (s.extract 1 s.size).size = s.size - 1 := by rw [ByteArray.size_extract]; omega
  have hX : (s.extract 1 s.size).size ≤ 100 := by omega
  have hD : ∀ w, Calls Tryz.prog 58 #[.string (s.extract 1 s.size), .int .i64 0] w fun e w' => e = .returned (.int .i64 (Num.endD (s.extract 1 s.size) 0)) ∧ w = w' := fun w => digitsR (s.extract 1 s.size) 0 w (by omega) (by omega)
  cases hr with
  | a1 h hd0 hn => exact ⟨fun w => parseP_m_a1 s (s.extract 1 s.size) (s.extract 1 s.size) ⟨#[]⟩ w hs hX (by decide) h0 hc rfl _ hd0 false (fun w => cut_no _ w h) (fun w => digitsP _ w (by omega)), fun w => parseR_m_b1 s (s.extract 1 s.size) w hs h0 hc rfl _ hd0 hn hD⟩
  | a2 h hd0 h9 => exact ⟨fun w => parseP_m_a2 s (s.extract 1 s.size) (s.extract 1 s.size) ⟨#[]⟩ w hs hX (by decide) h0 hc rfl h9 false (fun w => cut_no _ w h) (fun w => hd0 ▸ digitsP _ w (by omega)), fun w => parseR_m_b2 s (s.extract 1 s.size) w hs h0 hc rfl h9 (fun w => hd0 ▸ hD w)⟩
  | a3 h hz =>
    have hd0 : Num.endD (s.extract 1 s.size) 0 = (s.extract 1 s.size).size := by have := Num.endD_le (s.extract 1 s.size) 0 (by omega); omega
    exact ⟨fun w => parseP_m_a3 s (s.extract 1 s.size) (s.extract 1 s.size) ⟨#[]⟩ w hs hX (by decide) h0 hc rfl hz (fun w => cut_no _ w h) (fun w => hd0 ▸ digitsP _ w (by omega)), fun w => parseR_m_b3 s (s.extract 1 s.size) w hs h0 hc rfl hz (fun w => hd0 ▸ hD w)⟩
  | a4 h hd0 h9 h1 =>
    have hall := endD_all hd0
    have hA : ∀ w, Calls Tryz.prog 38 #[.string (⟨#[48]⟩ ++ (s.extract 1 s.size) ++ ⟨#[]⟩)] w fun e w' => e = .returned (.tuple #[.int .i64 (Num.value 0 (s.extract 1 s.size).data.toList), .nilIface]) ∧ Below w.heap.size w w' := by
      intro w
      rw [pre_zero (s.extract 1 s.size).data.toList (s.extract 1 s.size) ⟨#[]⟩ (by simp)]
      exact atoi_any _ w hall (by rw [list_len]; omega)
    have hv := Num.value_lt hall 0
    have hp : 10 ^ (s.extract 1 s.size).data.toList.length ≤ 10 ^ 9 := Nat.pow_le_pow_right (by omega) (by rw [list_len]; exact h9)
    exact ⟨fun w => parseP_m_a4 s (s.extract 1 s.size) (s.extract 1 s.size) ⟨#[]⟩ w hs hX (by decide) h0 hc rfl h9 h1 (by decide) (fun w => cut_no _ w h) (fun w => hd0 ▸ digitsP _ w (by omega)) ((Num.value 0 (s.extract 1 s.size).data.toList : Nat) : Int) 1 hA (fun w => power_any 0 w (by omega)) (by omega) (by omega) (by omega) (by omega),
      fun w => parseR_m_b4 s (s.extract 1 s.size) w hs h0 hc rfl h9 h1 (fun w => hd0 ▸ hD w) ((Num.value 0 (s.extract 1 s.size).data.toList : Nat) : Int) (fun w => valueR _ w (by omega) hall) (by omega) (by omega)⟩
  | d1 p h hp hc1 he hw hn =>
    have z1 := W_size (s.extract 1 s.size) p hp
    have z2 := Q_size (s.extract 1 s.size) p
    exact ⟨fun w => parseP_m_a1 s (s.extract 1 s.size) ((s.extract 1 s.size).extract 0 p) ((s.extract 1 s.size).extract (p + 1) (s.extract 1 s.size).size) w hs (by omega) (by omega) h0 hc rfl _ (by rw [z1]; exact hw) true (fun w => cut_at _ p w h hp (by omega)) (fun w => digitsP _ w (by omega)), fun w => parseR_m_b1 s (s.extract 1 s.size) w hs h0 hc rfl _ (by omega) hn hD⟩
  | d2 p h hp hc1 he hw k hk hq bad =>
    have z1 := W_size (s.extract 1 s.size) p hp
    have z2 := Q_size (s.extract 1 s.size) p
    have hcut := fun w => cut_at (s.extract 1 s.size) p w h hp (by omega)
    have hW : ∀ w, Calls Tryz.prog 37 #[.string ((s.extract 1 s.size).extract 0 p)] w fun e w' => e = .returned (.int .i64 ((s.extract 1 s.size).extract 0 p).size) ∧ w = w' := fun w => by
      have := digitsP ((s.extract 1 s.size).extract 0 p) w (by omega)
      rw [hw] at this
      rw [z1]
      exact this
    have hQ := fun w => digitsP ((s.extract 1 s.size).extract (p + 1) (s.extract 1 s.size).size) w (by omega)
    have hK : ∀ w, Calls Tryz.prog 58 #[.string (s.extract 1 s.size), .int .i64 ((p : Int) + 1)] w fun e w' => e = .returned (.int .i64 k) ∧ w = w' := fun w => hk ▸ digitsR (s.extract 1 s.size) (p + 1) w (by omega) (by omega)
    have hle := Num.endD_le ((s.extract 1 s.size).extract (p + 1) (s.extract 1 s.size).size) 0 (by omega)
    rw [he] at hD
    constructor
    · intro w
      by_cases g9 : 9 < p
      · exact parseP_m_a2 s (s.extract 1 s.size) _ _ w hs (by omega) (by omega) h0 hc rfl (by rw [z1]; exact g9) true hcut hW
      by_cases g0 : (s.extract 1 s.size).size = p + 1
      · exact parseP_m_a7 s (s.extract 1 s.size) _ _ w hs (by omega) (by omega) h0 hc rfl (by omega) (by omega) hcut hW
      by_cases gk : k < (s.extract 1 s.size).size
      · exact parseP_m_a8 s (s.extract 1 s.size) _ _ w hs (by omega) (by omega) h0 hc rfl (by omega) (by omega) _ (by omega) hcut hW hQ
      · have e : Num.endD ((s.extract 1 s.size).extract (p + 1) (s.extract 1 s.size).size) 0 = ((s.extract 1 s.size).extract (p + 1) (s.extract 1 s.size).size).size := by omega
        rw [e] at hQ
        exact parseP_m_a9 s (s.extract 1 s.size) _ _ w hs (by omega) (by omega) h0 hc rfl (by omega) (by omega) hcut hW hQ
    · intro w
      by_cases gk : k < (s.extract 1 s.size).size
      · exact parseR_m_b5 s (s.extract 1 s.size) w hs h0 hc rfl p hp hc1 k gk hD hK
      have ek : k = (s.extract 1 s.size).size := by omega
      rw [ek] at hK
      by_cases g9 : 9 < p
      · exact parseR_m_b6 s (s.extract 1 s.size) w hs h0 hc rfl p hp hc1 g9 hD hK
      by_cases g0 : (s.extract 1 s.size).size = p + 1
      · exact parseR_m_b7 s (s.extract 1 s.size) w hs h0 hc rfl p hp hc1 (by omega) g0 hD hK
      · exact parseR_m_b8 s (s.extract 1 s.size) w hs h0 hc rfl p hp hc1 (by omega) (by omega) hD hK
  | d3 p h hp hc1 he hw hk hq h9 q hz q1 q9 =>
    have z1 := W_size (s.extract 1 s.size) p hp
    have z2 := Q_size (s.extract 1 s.size) p
    have hcut := fun w => cut_at (s.extract 1 s.size) p w h hp (by omega)
    have hW : ∀ w, Calls Tryz.prog 37 #[.string ((s.extract 1 s.size).extract 0 p)] w fun e w' => e = .returned (.int .i64 ((s.extract 1 s.size).extract 0 p).size) ∧ w = w' := fun w => by
      have := digitsP ((s.extract 1 s.size).extract 0 p) w (by omega)
      rw [hw] at this
      rw [z1]
      exact this
    have e : Num.endD ((s.extract 1 s.size).extract (p + 1) (s.extract 1 s.size).size) 0 = ((s.extract 1 s.size).extract (p + 1) (s.extract 1 s.size).size).size := by omega
    have hQ := fun w => digitsP ((s.extract 1 s.size).extract (p + 1) (s.extract 1 s.size).size) w (by omega)
    rw [e] at hQ
    have hK : ∀ w, Calls Tryz.prog 58 #[.string (s.extract 1 s.size), .int .i64 ((p : Int) + 1)] w fun e w' => e = .returned (.int .i64 (s.extract 1 s.size).size) ∧ w = w' := fun w => hk ▸ digitsR (s.extract 1 s.size) (p + 1) w (by omega) (by omega)
    rw [he] at hD
    have aW : ∀ c ∈ ((s.extract 1 s.size).extract 0 p).data.toList, Num.isD c = true := endD_all (by rw [z1]; exact hw)
    have aQ : ∀ c ∈ ((s.extract 1 s.size).extract (p + 1) (s.extract 1 s.size).size).data.toList, Num.isD c = true := endD_all e
    have lW := list_len ((s.extract 1 s.size).extract 0 p)
    have lQ := list_len ((s.extract 1 s.size).extract (p + 1) (s.extract 1 s.size).size)
    have vW := Num.value_lt aW 0
    have vQ := Num.value_lt aQ 0
    have hpw : 10 ^ ((s.extract 1 s.size).extract 0 p).data.toList.length ≤ 10 ^ 9 := Nat.pow_le_pow_right (by omega) (by omega)
    have hpq : 10 ^ ((s.extract 1 s.size).extract (p + 1) (s.extract 1 s.size).size).data.toList.length ≤ 10 ^ 9 := Nat.pow_le_pow_right (by omega) (by omega)
    have eq : ((s.extract 1 s.size).extract (p + 1) (s.extract 1 s.size).size).size = q := by omega
    have hA : ∀ w, Calls Tryz.prog 38 #[.string (⟨#[48]⟩ ++ (s.extract 1 s.size).extract 0 p ++ (s.extract 1 s.size).extract (p + 1) (s.extract 1 s.size).size)] w fun e w' => e = .returned (.tuple #[.int .i64 (Num.value 0 (((s.extract 1 s.size).extract 0 p).data.toList ++ ((s.extract 1 s.size).extract (p + 1) (s.extract 1 s.size).size).data.toList)), .nilIface]) ∧ Below w.heap.size w w' := by
      intro w
      rw [pre_zero _ _ _ rfl]
      refine atoi_any _ w ?_ (by rw [List.length_append]; omega)
      intro c hcm
      rcases List.mem_append.1 hcm with hcm | hcm
      · exact aW c hcm
      · exact aQ c hcm
    have hval : Num.value 0 (((s.extract 1 s.size).extract 0 p).data.toList ++ ((s.extract 1 s.size).extract (p + 1) (s.extract 1 s.size).size).data.toList) = Num.value 0 ((s.extract 1 s.size).extract 0 p).data.toList * 10 ^ q + Num.value 0 ((s.extract 1 s.size).extract (p + 1) (s.extract 1 s.size).size).data.toList := by
      rw [Num.value_app, Num.value_acc, lQ, eq]
    have hpb := pow_bd q q9
    have hab : Num.value 0 (((s.extract 1 s.size).extract 0 p).data.toList ++ ((s.extract 1 s.size).extract (p + 1) (s.extract 1 s.size).size).data.toList) < (0 + 1) * 10 ^ (((s.extract 1 s.size).extract 0 p).data.toList ++ ((s.extract 1 s.size).extract (p + 1) (s.extract 1 s.size).size).data.toList).length := Num.value_lt (fun c hcm => by
      rcases List.mem_append.1 hcm with hcm | hcm
      · exact aW c hcm
      · exact aQ c hcm) 0
    have hpa : 10 ^ (((s.extract 1 s.size).extract 0 p).data.toList ++ ((s.extract 1 s.size).extract (p + 1) (s.extract 1 s.size).size).data.toList).length ≤ 10 ^ 18 := Nat.pow_le_pow_right (by omega) (by rw [List.length_append]; omega)
    constructor
    · intro w
      exact parseP_m_a10 s (s.extract 1 s.size) _ _ w hs (by omega) (by omega) h0 hc rfl (by omega) (by omega) (by omega) hcut hW hQ ((Num.value 0 (((s.extract 1 s.size).extract 0 p).data.toList ++ ((s.extract 1 s.size).extract (p + 1) (s.extract 1 s.size).size).data.toList) : Nat) : Int) ((10 : Int) ^ q) hA (fun w => by rw [eq]; exact power_any q w q9) (by omega) (by omega) hpb.1 hpb.2
    · intro w
      have := parseR_m_b9 s (s.extract 1 s.size) w hs h0 hc rfl p hp hc1 h9 q q1 q9 hz hD hK (Num.value 0 ((s.extract 1 s.size).extract 0 p).data.toList) (Num.value 0 ((s.extract 1 s.size).extract (p + 1) (s.extract 1 s.size).size).data.toList) ((10 : Int) ^ q) _ _ rfl rfl (fun w => valueR _ w (by omega) aW) (fun w => valueR _ w (by omega) aQ) (fun w => powerRef_any q w q9) (by omega) (by omega) (by omega) (by omega) hpb.1 hpb.2
      rw [show ((Num.value 0 ((s.extract 1 s.size).extract 0 p).data.toList : Nat) : Int) * (10 : Int) ^ q + (Num.value 0 ((s.extract 1 s.size).extract (p + 1) (s.extract 1 s.size).size).data.toList : Nat) = ((Num.value 0 (((s.extract 1 s.size).extract 0 p).data.toList ++ ((s.extract 1 s.size).extract (p + 1) (s.extract 1 s.size).size).data.toList) : Nat) : Int) by rw [hval]; simp] at this
      exact this
theorem parse_both (s : ByteArray) (hs : s.size ≤ 100) : ∃ r, Ret 22 #[.string s] r ∧ Ret 27 #[.string s] r := by
  by_cases h0 : s.size = 0
  · exact ⟨_, parse_e s hs h0⟩
  have h0 : 0 < s.size := by omega
  by_cases h1 : (s[0].toNat : Int) = 43
  · obtain ⟨o, ho⟩ := reads_any (s.extract 1 s.size)
    exact ⟨_, parse_p s hs h0 h1 o ho⟩
  by_cases h2 : (s[0].toNat : Int) = 45
  · obtain ⟨o, ho⟩ := reads_any (s.extract 1 s.size)
    exact ⟨_, parse_m s hs h0 h2 o ho⟩
  · obtain ⟨o, ho⟩ := reads_any s
    exact ⟨_, parse_n s hs h0 h1 h2 o ho⟩

end Go.Proofs.YtlkfnpmcihfjmaaGreatDoor
