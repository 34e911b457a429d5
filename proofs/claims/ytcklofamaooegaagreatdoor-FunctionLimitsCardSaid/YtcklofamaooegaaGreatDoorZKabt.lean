/-
  The claim's own texts, packed. Conditions: those typed in each theorem.
-/
import Derived.Test.YtcklofamaooegaaGreatDoorZKabs
import Derived.Test.YtcklofamaooegaaGreatDoorZKabr
import Derived.Test.YtcklofamaooegaaGreatDoorZKaae
import Derived.Deep.RegionHeld3
import Derived.Test.YtcklofamaooegaaGreatDoorZKabp
import Derived.Test.YtcklofamaooegaaGreatDoorRows
import Derived.SliceStrings
import Derived.ChangeArms
import Derived.ProofKit
set_option maxHeartbeats 4000000
set_option maxRecDepth 10000
set_option linter.unusedVariables false
namespace Go.Proofs.YtcklofamaooegaaGreatDoor
open Go.RowKit
attribute [local go_sem ↓] Go.wp_at_zero Go.wp_at_succ
inductive RQ (l : List ByteArray) : ByteArray → ByteArray → Int → Prop where
 | len : RQ l ⟨#[108, 101, 110]⟩ (⟨(Lib.itoa (nR (argV l 0) : Nat)).toArray⟩) 0
 | occurs : RQ l ⟨#[111, 99, 99, 117, 114, 115]⟩ (⟨(Lib.itoa ((occS (argV l 0) (rawV l 1)).length : Nat)).toArray⟩) 0
 | lc : RQ l ⟨#[108, 99]⟩ (casS false (argV l 0)) 0
 | uc : RQ l ⟨#[117, 99]⟩ (casS true (argV l 0)) 0
 | lcfirst : RQ l ⟨#[108, 99, 102, 105, 114, 115, 116]⟩ (fstS false (argV l 0)) 0
 | ucfirst : RQ l ⟨#[117, 99, 102, 105, 114, 115, 116]⟩ (fstS true (argV l 0)) 0
 | trim : RQ l ⟨#[116, 114, 105, 109]⟩ (argV l 0) 0
 | formula0 (hf : (argV l 0).size = 0) : RQ l ⟨#[102, 111, 114, 109, 117, 108, 97]⟩ ⟨#[]⟩ 0
 | formula (x d y : Int) (X : ByteArray) (hs : 0 < (argV l 0).size) (hE0 : Ret 40 #[.string (argV l 0)] (x, d, y))
   (hF : ∀ w, Calls Tryz.prog 41 #[.agg #[.int .i64 x, .int .i64 d]] w fun e w' => e = .returned (.string X) ∧ Below w.heap.size w w') : RQ l ⟨#[102, 111, 114, 109, 117, 108, 97]⟩ X y
 | dateformat (m y k1 : Int) (X : ByteArray)
   (hP : ∀ w, Calls Tryz.prog 42 #[.string (argV l 1)] w fun e w' => e = .returned (.tuple #[.int .i64 m, .int .i64 y]) ∧ Below w.heap.size w w')
   (hF : ∀ w, Calls Tryz.prog 43 #[.string (argV l 0), .int .i64 m] w fun e w' => e = .returned (.tuple #[.string X, .int .i64 k1]) ∧ Below w.heap.size w w') (hX : k1 ≠ 0 → X = ⟨#[]⟩) : RQ l ⟨#[100, 97, 116, 101, 102, 111, 114, 109, 97, 116]⟩ (outS X (fstE y k1)) (fstE y k1)
 | dateadd (X : ByteArray) (y : Int) (hD0 : DatQ l X y) : RQ l ⟨#[100, 97, 116, 101, 97, 100, 100]⟩ X y
 | sub (X : ByteArray) (y : Int) (hD0 : CntQ ⟨#[115, 117, 98]⟩ l X y) : RQ l ⟨#[115, 117, 98]⟩ X y
 | pos (X : ByteArray) (y : Int) (hD0 : CntQ ⟨#[112, 111, 115]⟩ l X y) : RQ l ⟨#[112, 111, 115]⟩ X y
 | replace (X : ByteArray) (y : Int) (hD0 : CntQ ⟨#[114, 101, 112, 108, 97, 99, 101]⟩ l X y) : RQ l ⟨#[114, 101, 112, 108, 97, 99, 101]⟩ X y
 | part (X : ByteArray) (y : Int) (hD0 : CntQ ⟨#[112, 97, 114, 116]⟩ l X y) : RQ l ⟨#[112, 97, 114, 116]⟩ X y
 | fixed (X : ByteArray) (y : Int) (hD0 : CntQ ⟨#[102, 105, 120, 101, 100]⟩ l X y) : RQ l ⟨#[102, 105, 120, 101, 100]⟩ X y
 | padleft (X : ByteArray) (y : Int) (hD0 : CntQ ⟨#[112, 97, 100, 108, 101, 102, 116]⟩ l X y) : RQ l ⟨#[112, 97, 100, 108, 101, 102, 116]⟩ X y
 | padright (X : ByteArray) (y : Int) (hD0 : CntQ ⟨#[112, 97, 100, 114, 105, 103, 104, 116]⟩ l X y) : RQ l ⟨#[112, 97, 100, 114, 105, 103, 104, 116]⟩ X y
end Go.Proofs.YtcklofamaooegaaGreatDoor
namespace Go.Proofs.YtcklofamaooegaaGreatDoor
open Go.RowKit
theorem not_in (N : ByteArray) (l : List ByteArray) (h : idxN N l 0 < 0) : ∀ x ∈ l, N ≠ x := fun x hx e => by
 subst e
 have := mem_idxN N l 0 hx
 omega
theorem fixed_fine (a b k : Int) (i1 : I64 a) (i2 : I64 b) : ∃ (s : ByteArray) (z : Int), (z ≠ 0 → s = ⟨#[]⟩) ∧
  (∀ w, Tab w → Calls Tryz.prog 61 #[.agg #[.int .i64 a, .int .i64 b], .int .i64 k] w fun e w' => e = .returned (.tuple #[.string s, .int .i64 z]) ∧ Below w.heap.size w w') ∧
  (∀ w, Calls Tryz.prog 104 #[.agg #[.int .i64 a, .int .i64 b], .int .i64 k] w fun e w' => e = .returned (.tuple #[.string s, .int .i64 z]) ∧ Below w.heap.size w w') := by
 have hP := roundP_any a b k i1 i2
 have hR := roundR_any a b k i1 i2
 obtain ⟨⟨x, y, z⟩, hr⟩ : ∃ r, roundV a b k = r := ⟨_, rfl⟩
 rw [hr] at hP hR
 by_cases hz : z = 0
 ·subst hz
  obtain ⟨k0, k9, v, h1⟩ := round_den hr
  obtain ⟨n, rfl⟩ := Int.eq_ofNat_of_zero_le k0
  rw [show (n : Int).toNat = n by omega] at h1
  exact ⟨_, 0, fun h => absurd rfl h, fun w ht => fixedP_ok a b x y n w (by omega) v ht hP, fun w => fixedR_ok a b x y n w (by omega) v h1 hR⟩
 ·exact ⟨_, z, fun _ => rfl, fun w _ => fixedP_no a b k x y z w hz hP, fun w => fixedR_no a b k x y z w hz hR⟩
theorem format_fine (x d y : Int) (h : Fine (x, d, y)) : ∃ s : ByteArray, outS s y = s ∧
  (∀ w, Tab w → Calls Tryz.prog 27 #[.agg #[.int .i64 x, .int .i64 d]] w fun e w' => e = .returned (.string s) ∧ Below w.heap.size w w') ∧
  (∀ w, Calls Tryz.prog 41 #[.agg #[.int .i64 x, .int .i64 d]] w fun e w' => e = .returned (.string s) ∧ Below w.heap.size w w') := by
 have hi := h.i64
 by_cases hy : y = 0
 ·obtain ⟨s, a, b⟩ := format_both x d hi.1 hi.2
  exact ⟨s, outS_ok hy, a, b⟩
 ·obtain ⟨h1, h2⟩ := h.zero hy
  have h1 : x = 0 := h1
  have h2 : d = 0 := h2
  subst h1; subst h2
  exact ⟨⟨#[]⟩, outS_no hy, fun w _ => formatP_no 0 0 w hi.1 hi.2 (by decide), fun w => formatR_no 0 0 w hi.1 hi.2 (by decide)⟩
end Go.Proofs.YtcklofamaooegaaGreatDoor
namespace Go.Proofs.YtcklofamaooegaaGreatDoor
open Go.RowKit
attribute [local go_sem ↓] Go.wp_at_zero Go.wp_at_succ
theorem lenL (s : ByteArray) : s.data.toList.length = s.size := by simp
theorem parse_whole (l : List UInt8) (h : ∀ c ∈ l, Num.isD c = true) (h1 : l ≠ []) (h9 : l.length ≤ 9) : Ret 112 #[.string ⟨l.toArray⟩] ((Num.value 0 l : Nat), 1, 0) := by
 obtain ⟨s, hs⟩ : ∃ s : ByteArray, s = ⟨l.toArray⟩ := ⟨_, rfl⟩
 have hl : s.data.toList = l := by rw [hs]
 have hz : s.size = l.length := by rw [hs]; rfl
 have hp : 0 < l.length := List.length_pos_iff.2 h1
 rw [← hs]
 have hall : ∀ c ∈ s.data.toList, Num.isD c = true := by rw [hl]; exact h
 have hno : Lib.indexByte s.data.toList 46 = -1 := by
  rcases index_cases s.data.toList with ⟨a, _⟩ | ⟨p, hp, _, a, _⟩
  ·exact a
  ·have := hall _ (List.getElem_mem hp)
   rw [a] at this
   exact absurd this (by decide)
 have hd0 : Num.endD s 0 = s.size := by
  unfold Num.endD
  rw [List.drop_zero, Num.lead_all hall, lenL]
  omega
 have h0 : 0 < s.size := by omega
 have hd := Num.isD_iff.1 (hall s[0] (by rw [Num.at_list s 0 h0]; exact List.getElem_mem _))
 have hA : ∀ w, Calls Tryz.prog 66 #[.string (⟨#[48]⟩ ++ s ++ ⟨#[]⟩)] w fun e w' => e = .returned (.tuple #[.int .i64 (Num.value 0 s.data.toList), .nilIface]) ∧ Below w.heap.size w w' := by
  intro w
  have e : (⟨#[48]⟩ : ByteArray) ++ s ++ ⟨#[]⟩ = ⟨(48 :: s.data.toList).toArray⟩ := by
   apply ByteArray.ext
   rw [ByteArray.data_append, ByteArray.data_append]
   apply Array.toList_inj.1
   rw [Array.toList_append, Array.toList_append]
   simp
  rw [e]
  exact atoi_any _ w hall (by rw [lenL]; omega)
 have hv := Num.value_lt hall 0
 have hpw : 10 ^ s.data.toList.length ≤ 10 ^ 9 := Nat.pow_le_pow_right (by omega) (by rw [lenL]; omega)
 have hr : Num.val ((Num.value 0 s.data.toList : Nat) : Int) 1 = true := Num.val_iff.2 ⟨by omega, by omega, by omega, by omega, by simp⟩
 have hred := Num.red_val_self hr
 have hP := fun w => parseP_n_a4 s s ⟨#[]⟩ w (by omega) (by omega) (by decide) h0 (by omega) (by omega) (by omega) (by omega) (by decide) (fun w => cut_no _ w hno) (fun w => hd0 ▸ digitsP _ w (by omega)) ((Num.value 0 s.data.toList : Nat) : Int) 1 hA (fun w => power_any 0 w (by omega)) (by omega) (by omega) (by omega) (by omega)
 have e1 : Num.redN ((Num.value 0 s.data.toList : Nat) : Int) 1 = ((Num.value 0 s.data.toList : Nat) : Int) := congrArg (fun x => x.1) hred
 have e2 : Num.redD ((Num.value 0 s.data.toList : Nat) : Int) 1 = 1 := congrArg (fun x => x.2.1) hred
 have e3 : Num.redE ((Num.value 0 s.data.toList : Nat) : Int) 1 = 0 := congrArg (fun x => x.2.2) hred
 intro w
 have := hP w
 rw [e1, e2, e3, hl] at this
 exact this
theorem digitB (d : Nat) (h : d < 10) : Num.isD (UInt8.ofNat (48 + d)) = true ∧ (UInt8.ofNat (48 + d)).toNat = 48 + d := by
 have : (UInt8.ofNat (48 + d)).toNat = 48 + d := by simp; omega
 exact ⟨Num.isD_iff.2 (by omega), this⟩
theorem decD_all (n : Nat) : (∀ c ∈ Lib.decDigits n, Num.isD c = true) ∧ Num.value 0 (Lib.decDigits n) = n := by
 induction n using Nat.strongRecOn with
 | ind n ih =>
   rw [decDigits_step]
   by_cases h : n < 10
   ·rw [if_pos h]
    obtain ⟨h1, h2⟩ := digitB n h
    refine ⟨fun c hc => by rw [List.mem_singleton.1 hc]; exact h1, ?_⟩
    rw [Num.value_cons, Num.value_nil, h2]
    omega
   ·rw [if_neg h]
    obtain ⟨h1, h2⟩ := digitB (n % 10) (by omega)
    obtain ⟨g1, g2⟩ := ih (n / 10) (by omega)
    refine ⟨fun c hc => ?_, ?_⟩
    ·rcases List.mem_append.1 hc with hc | hc
     ·exact g1 c hc
     ·rw [List.mem_singleton.1 hc]; exact h1
    ·rw [Num.value_snoc, g2, h2]
     omega
theorem decD_len : ∀ n : Nat, n < 1000000000 → (Lib.decDigits n).length ≤ 9 := fun n h => (Num.fill_eq 8 n h).1
theorem decD_ne (n : Nat) : Lib.decDigits n ≠ [] := by
 rw [decDigits_step]
 split <;> simp
theorem intP_dec (l : List ByteArray) (i m : Nat) (emp : Int) (hi : i ≤ 1000) (hl : Sml l) (hm : m < 1000000000) (ha : argV l i = ⟨(Lib.decDigits m).toArray⟩) : IntP l i emp m 0 := by
 have h0 : 0 < (argV l i).size := by
  rw [ha, Lib.size_mk]
  exact List.length_pos_iff.2 (decD_ne m)
 have hP := parse_whole (Lib.decDigits m) (decD_all m).1 (decD_ne m) (decD_len m hm)
 rw [(decD_all m).2, ← ha] at hP
 have := intP_num l i emp m 1 0 hi hl h0 hP
 rwa [if_neg (fun h => h.2 rfl)] at this
theorem call_sub_dec (l : List ByteArray) (hl : Sml l) (hl40 : l.length ≤ 40) (n m : Int) (hn : I64 n) (hm : I64 m) (h1 : IntP l 1 0 n 0) (h2 : IntP l 2 32768 m 0) : CallP ⟨#[115, 117, 98]⟩ l (slcS (argV l 0) n m) 0 := by
 have := call_any l hl hl40 (.text ⟨#[115, 117, 98]⟩ (slcS (argV l 0) n m) 0 (idxN_mem _ nms 0 (by decide +kernel)) (not_in _ _ (by decide +kernel)) (text_sub l hl n 0 m 0 h1 h2 hn hm))
 rwa [outS_ok rfl] at this
def exL : List ByteArray := [⟨#[97, 98, 99, 100, 101, 102]⟩, ⟨#[50]⟩]
theorem exL_sml : Sml exL := ⟨by decide, fun x hx => by
 unfold exL at hx
 simp only [List.mem_cons, List.not_mem_nil, or_false] at hx
 rcases hx with rfl | rfl <;> decide⟩
theorem exL_call : CallP ⟨#[115, 117, 98]⟩ exL ⟨#[99, 100, 101, 102]⟩ 0 := by
 have h1 : argV exL 1 = ⟨(Lib.decDigits 2).toArray⟩ := bytes_ext (by decide +kernel)
 have h2 : (argV exL 2).size = 0 := by decide +kernel
 have h := call_sub_dec exL exL_sml (by decide) 2 32768 (by unfold I64; omega) (by unfold I64; omega) (intP_dec exL 1 2 0 (by omega) exL_sml (by omega) h1) (intP_empty exL 2 32768 (by omega) exL_sml h2)
 have e : slcS (argV exL 0) 2 32768 = ⟨#[99, 100, 101, 102]⟩ := bytes_ext (by decide +kernel)
 rwa [e] at h
theorem known11_any (w : World) (he : Env w) : Calls Tryz.prog 10 #[] w fun e w' => e = .returned (.bool true) ∧ Below w.heap.size w w' := by
 have hb := below_new0 w (.cells #[.string ⟨#[97, 98, 99, 100, 101, 102]⟩, .string ⟨#[50]⟩] 9)
 have hS : SL (w.alloc (.cells #[.string ⟨#[97, 98, 99, 100, 101, 102]⟩, .string ⟨#[50]⟩] 9)) (some ⟨w.heap.size, 0, none⟩) 2 exL := SL.made w _ exL (by decide) (by decide)
 have hC : Calls Tryz.prog 11 #[.string ⟨#[115, 117, 98]⟩, .slice (some ⟨w.heap.size, 0, none⟩) 2 2] (w.alloc (.cells #[.string ⟨#[97, 98, 99, 100, 101, 102]⟩, .string ⟨#[50]⟩] 9)) fun e w' => e = .returned (.tuple #[.string ⟨#[99, 100, 101, 102]⟩, .int .i64 0]) ∧ Below (w.alloc (.cells #[.string ⟨#[97, 98, 99, 100, 101, 102]⟩, .string ⟨#[50]⟩] 9)).heap.size (w.alloc (.cells #[.string ⟨#[97, 98, 99, 100, 101, 102]⟩, .string ⟨#[50]⟩] 9)) w' := exL_call _ _ _ hS (he.below hb)
 have HC := Lib.hid hC
 clear hC hS
 go_enter Tryz.func10, Tryz.ntmps10
 go_wp2_with fail
 refine HC.out.mono ?_
 rintro E w1 ⟨rfl, hb1⟩
 have hbx := below_then hb hb1
 clear hb1 hb
 go_wp2_with fail
 refine (names_any _).mono ?_
 rintro E w2 ⟨p, rfl, -, hb2⟩
 go_wp2_with fail
 go_ret
 exact ⟨rfl, below_then hbx hb2⟩
end Go.Proofs.YtcklofamaooegaaGreatDoor
namespace Go.Proofs.YtcklofamaooegaaGreatDoor
open Go.RowKit
def Alike (l' l : List ByteArray) : Prop := argV l' 0 = argV l 0 ∧ ∀ i, 1 ≤ i → i ≤ 3 → rawV l' i = rawV l i
theorem Alike.arg {l' l : List ByteArray} (h : Alike l' l) (i : Nat) (hi : i ≤ 3) : argV l' i = argV l i := by
 rcases Nat.eq_zero_or_pos i with rfl | h0
 ·exact h.1
 ·unfold argV; rw [h.2 i h0 hi]
theorem int_alike (l : List ByteArray) (i : Nat) (emp : Int) (hi : i ≤ 3) (hl : Sml l) (he : I64 emp) : ∃ n z, I64 n ∧ ∀ l', Sml l' → Alike l' l → IntP l' i emp n z := by
 by_cases h0 : (argV l i).size = 0
 ·exact ⟨emp, 0, he, fun l' hl' h => intP_empty l' i emp (by omega) hl' (by rw [h.arg i hi]; exact h0)⟩
 ·obtain ⟨⟨x, d, z⟩, h1, h2, h3⟩ := parse_fine (argV l i) (by have := argV_sz hl i; omega)
  exact ⟨x, _, h3.i64.1, fun l' hl' h => intP_num l' i emp x d z (by omega) hl' (by rw [h.arg i hi]; omega) (by rw [h.arg i hi]; exact h1)⟩
def One (N : ByteArray) (l : List ByteArray) : Prop := ∃ S z, ∀ l', Sml l' → Alike l' l → PQ l' N S z
theorem one_len (l : List ByteArray) (hl : Sml l) : One ⟨#[108, 101, 110]⟩ l := by
 exact ⟨⟨(Lib.itoa (nR (argV l 0) : Nat)).toArray⟩, 0, fun l' hl' h => by rw [← h.1]; exact .text ⟨#[108, 101, 110]⟩ (_) (_) (idxN_mem _ nms 0 (by decide +kernel)) (not_in _ _ (by decide +kernel)) (text_len l' hl')⟩
theorem one_occurs (l : List ByteArray) (hl : Sml l) : One ⟨#[111, 99, 99, 117, 114, 115]⟩ l := by
 exact ⟨⟨(Lib.itoa ((occS (argV l 0) (rawV l 1)).length : Nat)).toArray⟩, 0, fun l' hl' h => by rw [← h.1, ← h.2 1 (by omega) (by omega)]; exact .text ⟨#[111, 99, 99, 117, 114, 115]⟩ (_) (_) (idxN_mem _ nms 0 (by decide +kernel)) (not_in _ _ (by decide +kernel)) (text_occurs l' hl')⟩
theorem one_lc (l : List ByteArray) (hl : Sml l) : One ⟨#[108, 99]⟩ l := by
 exact ⟨casS false (argV l 0), 0, fun l' hl' h => by rw [← h.1]; exact .text ⟨#[108, 99]⟩ (_) (_) (idxN_mem _ nms 0 (by decide +kernel)) (not_in _ _ (by decide +kernel)) (text_lc l' hl')⟩
theorem one_uc (l : List ByteArray) (hl : Sml l) : One ⟨#[117, 99]⟩ l := by
 exact ⟨casS true (argV l 0), 0, fun l' hl' h => by rw [← h.1]; exact .text ⟨#[117, 99]⟩ (_) (_) (idxN_mem _ nms 0 (by decide +kernel)) (not_in _ _ (by decide +kernel)) (text_uc l' hl')⟩
theorem one_lcfirst (l : List ByteArray) (hl : Sml l) : One ⟨#[108, 99, 102, 105, 114, 115, 116]⟩ l := by
 exact ⟨fstS false (argV l 0), 0, fun l' hl' h => by rw [← h.1]; exact .text ⟨#[108, 99, 102, 105, 114, 115, 116]⟩ (_) (_) (idxN_mem _ nms 0 (by decide +kernel)) (not_in _ _ (by decide +kernel)) (text_lcfirst l' hl')⟩
theorem one_ucfirst (l : List ByteArray) (hl : Sml l) : One ⟨#[117, 99, 102, 105, 114, 115, 116]⟩ l := by
 exact ⟨fstS true (argV l 0), 0, fun l' hl' h => by rw [← h.1]; exact .text ⟨#[117, 99, 102, 105, 114, 115, 116]⟩ (_) (_) (idxN_mem _ nms 0 (by decide +kernel)) (not_in _ _ (by decide +kernel)) (text_ucfirst l' hl')⟩
theorem one_trim (l : List ByteArray) (hl : Sml l) : One ⟨#[116, 114, 105, 109]⟩ l := by
 exact ⟨argV l 0, 0, fun l' hl' h => by rw [← h.1]; exact .text ⟨#[116, 114, 105, 109]⟩ (_) (_) (idxN_mem _ nms 0 (by decide +kernel)) (not_in _ _ (by decide +kernel)) (text_trim l' hl')⟩
theorem one_sub (l : List ByteArray) (hl : Sml l) : One ⟨#[115, 117, 98]⟩ l := by
 obtain ⟨n1, z1, i1, P1⟩ := int_alike l 1 (0) (by omega) hl (by unfold I64; omega)
 obtain ⟨n2, z2, i2, P2⟩ := int_alike l 2 (32768) (by omega) hl (by unfold I64; omega)
 exact ⟨slcS (argV l 0) n1 n2, fstE z1 z2, fun l' hl' h => by rw [← h.1]; exact .text ⟨#[115, 117, 98]⟩ (_) (_) (idxN_mem _ nms 0 (by decide +kernel)) (not_in _ _ (by decide +kernel)) (text_sub l' hl' n1 z1 n2 z2 (P1 l' hl' h) (P2 l' hl' h) i1 i2)⟩
theorem one_pos (l : List ByteArray) (hl : Sml l) : One ⟨#[112, 111, 115]⟩ l := by
 obtain ⟨n1, z1, i1, P1⟩ := int_alike l 2 (0) (by omega) hl (by unfold I64; omega)
 rcases fndN_bd (argV l 0) (rawV l 1) (max 0 n1).toNat with hk | hk
 ·exact ⟨⟨#[]⟩, z1, fun l' hl' h => .text ⟨#[112, 111, 115]⟩ (_) (_) (idxN_mem _ nms 0 (by decide +kernel)) (not_in _ _ (by decide +kernel)) (text_pos_no l' hl' n1 z1 (P1 l' hl' h) i1 (by rw [h.1, h.2 1 (by omega) (by omega)]; exact hk))⟩
 ·obtain ⟨k, hk2⟩ := Int.eq_ofNat_of_zero_le hk.1
  exact ⟨⟨(Lib.itoa (k : Nat)).toArray⟩, z1, fun l' hl' h => .text ⟨#[112, 111, 115]⟩ (_) (_) (idxN_mem _ nms 0 (by decide +kernel)) (not_in _ _ (by decide +kernel)) (text_pos_yes l' hl' n1 z1 (P1 l' hl' h) i1 k (by rw [h.1, h.2 1 (by omega) (by omega)]; exact hk2))⟩
theorem one_replace (l : List ByteArray) (hl : Sml l) : One ⟨#[114, 101, 112, 108, 97, 99, 101]⟩ l := by
 obtain ⟨n1, z1, i1, P1⟩ := int_alike l 3 (-1) (by omega) hl (by unfold I64; omega)
 exact ⟨(repV (argV l 0) (rawV l 1) (rawV l 2) n1).1, fstE z1 (repV (argV l 0) (rawV l 1) (rawV l 2) n1).2, fun l' hl' h => by rw [← h.1, ← h.2 1 (by omega) (by omega), ← h.2 2 (by omega) (by omega)]; exact .text ⟨#[114, 101, 112, 108, 97, 99, 101]⟩ (_) (_) (idxN_mem _ nms 0 (by decide +kernel)) (not_in _ _ (by decide +kernel)) (text_replace l' hl' n1 z1 (P1 l' hl' h) i1)⟩
theorem one_padleft (l : List ByteArray) (hl : Sml l) : One ⟨#[112, 97, 100, 108, 101, 102, 116]⟩ l := by
 obtain ⟨n1, z1, i1, P1⟩ := int_alike l 1 (0) (by omega) hl (by unfold I64; omega)
 by_cases h0 : (rawV l 2).size = 0
 ·exact ⟨(padV true (argV l 0) n1 ⟨#[48]⟩).1, fstE z1 (padV true (argV l 0) n1 ⟨#[48]⟩).2, fun l' hl' h => by rw [← h.1]; exact .text ⟨#[112, 97, 100, 108, 101, 102, 116]⟩ (_) (_) (idxN_mem _ nms 0 (by decide +kernel)) (not_in _ _ (by decide +kernel)) (text_padleft0 l' hl' n1 z1 (P1 l' hl' h) i1 (by rw [h.2 2 (by omega) (by omega)]; exact h0))⟩
 ·have h0 : 0 < (rawV l 2).size := by omega
  exact ⟨(padV true (argV l 0) n1 (rawV l 2)).1, fstE z1 (padV true (argV l 0) n1 (rawV l 2)).2, fun l' hl' h => by rw [← h.1, ← h.2 2 (by omega) (by omega)]; exact .text ⟨#[112, 97, 100, 108, 101, 102, 116]⟩ (_) (_) (idxN_mem _ nms 0 (by decide +kernel)) (not_in _ _ (by decide +kernel)) (text_padleft1 l' hl' n1 z1 (P1 l' hl' h) i1 (by rw [h.2 2 (by omega) (by omega)]; exact h0))⟩
theorem one_padright (l : List ByteArray) (hl : Sml l) : One ⟨#[112, 97, 100, 114, 105, 103, 104, 116]⟩ l := by
 obtain ⟨n1, z1, i1, P1⟩ := int_alike l 1 (0) (by omega) hl (by unfold I64; omega)
 by_cases h0 : (rawV l 2).size = 0
 ·exact ⟨(padV false (argV l 0) n1 ⟨#[48]⟩).1, fstE z1 (padV false (argV l 0) n1 ⟨#[48]⟩).2, fun l' hl' h => by rw [← h.1]; exact .text ⟨#[112, 97, 100, 114, 105, 103, 104, 116]⟩ (_) (_) (idxN_mem _ nms 0 (by decide +kernel)) (not_in _ _ (by decide +kernel)) (text_padright0 l' hl' n1 z1 (P1 l' hl' h) i1 (by rw [h.2 2 (by omega) (by omega)]; exact h0))⟩
 ·have h0 : 0 < (rawV l 2).size := by omega
  exact ⟨(padV false (argV l 0) n1 (rawV l 2)).1, fstE z1 (padV false (argV l 0) n1 (rawV l 2)).2, fun l' hl' h => by rw [← h.1, ← h.2 2 (by omega) (by omega)]; exact .text ⟨#[112, 97, 100, 114, 105, 103, 104, 116]⟩ (_) (_) (idxN_mem _ nms 0 (by decide +kernel)) (not_in _ _ (by decide +kernel)) (text_padright1 l' hl' n1 z1 (P1 l' hl' h) i1 (by rw [h.2 2 (by omega) (by omega)]; exact h0))⟩
theorem one_part (l : List ByteArray) (hl : Sml l) : One ⟨#[112, 97, 114, 116]⟩ l := by
 obtain ⟨n1, z1, i1, P1⟩ := int_alike l 2 (0) (by omega) hl (by unfold I64; omega)
 exact ⟨prtS (argV l 0) (rawV l 1) n1, z1, fun l' hl' h => by rw [← h.1, ← h.2 1 (by omega) (by omega)]; exact .text ⟨#[112, 97, 114, 116]⟩ (_) (_) (idxN_mem _ nms 0 (by decide +kernel)) (not_in _ _ (by decide +kernel)) (text_part l' hl' n1 z1 (P1 l' hl' h) i1)⟩
theorem one_fixed (l : List ByteArray) (hl : Sml l) : One ⟨#[102, 105, 120, 101, 100]⟩ l := by
 obtain ⟨n1, z1, i1, P1⟩ := int_alike l 1 (0) (by omega) hl (by unfold I64; omega)
 obtain ⟨⟨x, d, y⟩, h1, h2, h3⟩ := eval_fine (argV l 0) (by have := argV_sz hl 0; omega)
 obtain ⟨S, k, h4, h5, h6⟩ := fixed_fine x d n1 h3.i64.1 h3.i64.2
 exact ⟨S, _, fun l' hl' h => .fixed n1 z1 x d y k S (P1 l' hl' h) (by rw [h.1]; exact h1) h5⟩
theorem one_dateadd (l : List ByteArray) (hl : Sml l) : One ⟨#[100, 97, 116, 101, 97, 100, 100]⟩ l := by
 obtain ⟨n1, z1, i1, P1⟩ := int_alike l 1 (0) (by omega) hl (by unfold I64; omega)
 have h0 := argV_sz hl 0
 exact ⟨_, _, fun l' hl' h => .dateadd n1 z1 (idxN (argV l 2) uns 0 + 1) _ _ _ _ _ _ (P1 l' hl' h) (fun w => by rw [h.arg 2 (by omega)]; exact unit_word (argV l 2) w) (fun w => by rw [h.1]; exact parse_any (argV l 0) w (by omega)) (fun w => add_any _ _ n1 w) (fun w ht => format_any patD _ w (by decide) ht)⟩
theorem one_dateformat (l : List ByteArray) (hl : Sml l) : One ⟨#[100, 97, 116, 101, 102, 111, 114, 109, 97, 116]⟩ l := by
 have h0 := argV_sz hl 0
 have h1 := argV_sz hl 1
 exact ⟨_, _, fun l' hl' h => .dateformat _ _ _ _ (fun w => by rw [h.arg 1 (by omega)]; exact parse_any (argV l 1) w (by omega)) (fun w ht => by rw [h.1]; exact format_any (argV l 0) _ w (by omega) ht)⟩
theorem one_formula (l : List ByteArray) (hl : Sml l) : One ⟨#[102, 111, 114, 109, 117, 108, 97]⟩ l := by
 by_cases h0 : (argV l 0).size = 0
 ·exact ⟨⟨#[]⟩, 0, fun l' hl' h => .formula0 (by rw [h.1]; exact h0)⟩
 ·have h0 : 0 < (argV l 0).size := by omega
  obtain ⟨⟨x, d, y⟩, h1, h2, h3⟩ := eval_fine (argV l 0) (by have := argV_sz hl 0; omega)
  obtain ⟨s, h4, h5, h6⟩ := format_fine x d y h3
  exact ⟨s, y, fun l' hl' h => .formula x d y s (by rw [h.1]; exact h0) (by rw [h.1]; exact h1) h5⟩
theorem alike_any (N : ByteArray) (hN : N ∈ nms) (l : List ByteArray) (hl : Sml l) : One N l := by
 unfold nms at hN
 simp only [List.mem_cons, List.not_mem_nil, or_false] at hN
 rcases hN with rfl | rfl | rfl | rfl | rfl | rfl | rfl | rfl | rfl | rfl | rfl | rfl | rfl | rfl | rfl | rfl | rfl
 ·exact one_dateadd l hl
 ·exact one_dateformat l hl
 ·exact one_fixed l hl
 ·exact one_formula l hl
 ·exact one_lc l hl
 ·exact one_lcfirst l hl
 ·exact one_len l hl
 ·exact one_occurs l hl
 ·exact one_padleft l hl
 ·exact one_padright l hl
 ·exact one_part l hl
 ·exact one_pos l hl
 ·exact one_replace l hl
 ·exact one_sub l hl
 ·exact one_trim l hl
 ·exact one_uc l hl
 ·exact one_ucfirst l hl
end Go.Proofs.YtcklofamaooegaaGreatDoor
namespace Go.Proofs.YtcklofamaooegaaGreatDoor
open Go.RowKit
attribute [local go_sem ↓] Go.wp_at_zero Go.wp_at_succ
def LrgR (l : List ByteArray) (b : Bool) : Prop := b = false → l.length ≤ 61 ∧ ∀ x ∈ l, x.size ≤ 300
def LrgE (l : List ByteArray) (E : Ending) : Prop := ∃ b, E = .returned (.bool b) ∧ LrgR l b
theorem large_any (l : List ByteArray) (p : Option Addr) (c : Nat) (w : World) (hS : SL w p c l) (hz : ∀ x ∈ l, x.size ≤ 9223372036854775807) :
  Calls Tryz.prog 9 #[.slice p l.length c] w fun E w' => LrgE l E ∧ w = w' := by
 have hcap := hS.1
 have hcap2 := hS.2.1
 obtain ⟨n, hn⟩ : ∃ n, n = l.length := ⟨_, rfl⟩
 rw [← hn] at hcap ⊢
 have HS := Lib.hid hS
 have HN := Lib.hid hn
 have HZ := Lib.hid hz
 clear hS hn hz
 go_enter Tryz.func9, Tryz.ntmps9
 go_wp2_with fail
 go_loopg [3] 63 (fun g s3 wr => ∃ k : Nat, s3 = .int .i64 k ∧ k ≤ n ∧ k ≤ 61 ∧ 61 < k + g ∧ (∀ (j : Nat) (x : ByteArray), j < k → l[j]? = some x → x.size ≤ 300) ∧ w = wr)
 case atStart => exact ⟨0, rfl, by omega, by omega, by omega, fun j x h => by omega, rfl⟩
 case round =>
  obtain ⟨k, rfl, hk, hk61, hg, hsm, rfl⟩ := hrel
  have HSM := Lib.hid hsm
  clear hsm
  by_cases h1 : k < n
  ·have g1 : decide (k < n) = true := decide_eq_true h1
   by_cases h2 : 60 < k
   ·have g2 : decide (60 < k) = true := decide_eq_true h2
    go_wp2_with fail
    go_ret
    exact ⟨⟨true, rfl, fun h => (by cases h)⟩, rfl⟩
   ·have g2 : decide (60 < k) = false := decide_eq_false h2
    obtain ⟨b0, o, rfl, hbl, hcc⟩ := HS.out.all (by rw [← HN.out]; omega)
    obtain ⟨x, hx⟩ : ∃ x, l[k]? = some x := ⟨_, List.getElem?_eq_getElem (by rw [← HN.out]; exact h1)⟩
    have d0 := hcc k x hx
    have hxz := HZ.out x (List.mem_of_getElem? hx)
    have HX := Lib.hid hx
    clear hcc hx
    by_cases h3 : 300 < x.size
    ·have g3 : decide (300 < x.size) = true := decide_eq_true h3
     go_wp2_with fail
     go_ret
     exact ⟨⟨true, rfl, fun h => (by cases h)⟩, rfl⟩
    ·have g3 : decide (300 < x.size) = false := decide_eq_false h3
     go_wp2_with fail
     go_roundg (61 - k)
     case measure => omega
     case rel => exact ⟨k + 1, by go_num, by omega, by omega, by omega, fun j y hj hy => by
      rcases Nat.lt_or_ge j k with h | h
      ·exact HSM.out j y h hy
      ·have : j = k := by omega
       subst this
       have := HX.out.symm.trans hy
       cases this
       omega, rfl⟩
  ·have g1 : decide (k < n) = false := decide_eq_false h1
   go_wp2_with fail
   go_ret
   exact ⟨⟨false, rfl, fun _ => ⟨by rw [← HN.out]; omega, fun x hx => by
    obtain ⟨j, hj⟩ := List.mem_iff_getElem?.1 hx
    have := (List.getElem?_eq_some_iff.1 hj).1
    exact HSM.out j x (by rw [← HN.out] at this; omega) hj⟩⟩, rfl⟩
def TrmR (l : List ByteArray) (m : ByteArray) (v : Value) : Prop := ∃ b, v = .bool b ∧ (b = false → 0 < l.length ∧ l.length ≤ 4 ∧ (∀ x ∈ l, x.size ≤ 300) ∧ m.size ≤ 100 ∧ (rawV l 0).size ≤ 200)
theorem SL.to_sl {w : World} {b o c : Nat} {l : List ByteArray} (h : SL w (some ⟨b, o, none⟩) c l) (q : Nat → Prop) (hq : ∀ b, b < w.heap.size → q b) : txS.sl q w (.slice (some ⟨b, o, none⟩) l.length c) l := by
 obtain ⟨h1, h2, h3⟩ := h
 refine ⟨_, c, rfl, h1, h2, (fun h => by cases h), ?_⟩
 rcases h3 with h3 | ⟨b, o, e, hl, hc⟩
 ·exact .inl (by rw [h3]; rfl)
 ·cases e
  refine .inr ⟨b, o, tcs l, rfl, hq b hl, hl, fun j u hj => ?_, rfl⟩
  unfold tcs at hj
  rw [List.getElem?_map] at hj
  cases hx : l[j]? with
  | none => rw [hx] at hj; cases hj
  | some x =>
    rw [hx] at hj
    cases hj
    exact hc j x hx
theorem src_sl {w : World} {b o c : Nat} {l : List ByteArray} (h : SL w (some ⟨b, o, none⟩) c l) (q : Nat → Prop) : txS.src q w (.slice (some ⟨b, o, none⟩) l.length c) l := by
 obtain ⟨ys, h1, h2⟩ := Shp.src_of (h.to_sl (fun _ => True) (fun _ _ => trivial))
 exact ⟨ys, h1, h2⟩
theorem own_lit (q : Nat → Prop) (w : World) (s : ByteArray) (B : Nat) (hB : B ≤ w.heap.size) : txS.own 9 q B (w.alloc (.cells #[.string s] 9)) (.slice (some ⟨w.heap.size, 0, none⟩) 1 1) [s] :=
 ⟨[.string s], ⟨rfl, .inr ⟨w.heap.size, 1, #[.string s], rfl, hB, Known.made w _ _, Nat.le_refl _, by decide, rfl, rfl⟩⟩, rfl⟩
theorem trim_app (p : UInt8 → Bool) (a l b : List UInt8) (ha : ∀ c ∈ a, p c = true) (hb : ∀ c ∈ b, p c = true) : trimW p (a ++ l ++ b) = trimW p l := by
 have h1 : ∀ (a l : List UInt8), (∀ c ∈ a, p c = true) → (a ++ l).dropWhile p = l.dropWhile p := by
  intro a l h
  induction a with
  | nil => rfl
  | cons c r ih => rw [List.cons_append, List.dropWhile_cons_of_pos (h c List.mem_cons_self)]; exact ih (fun x hx => h x (List.mem_cons_of_mem _ hx))
 have h2 : ∀ l b : List UInt8, (∀ c ∈ b, p c = true) → trimW p (l ++ b) = trimW p l := by
  intro l b h
  have e : ∀ l, trimW p l = ((l.reverse.dropWhile p).reverse).dropWhile p := fun l => (trim_comm p l).symm
  rw [e, e, List.reverse_append, h1 _ _ (fun c hc => h c (List.mem_reverse.1 hc))]
 rw [h2 _ b hb]
 unfold trimW
 rw [h1 a l ha]
def wideS (s : ByteArray) : ByteArray := ⟨#[32, 10]⟩ ++ s ++ ⟨#[9, 32]⟩
theorem wide_trim (s : ByteArray) : trimW ws4 (wideS s).data.toList = trimW ws4 s.data.toList := by
 unfold wideS
 rw [app_data, app_data]
 exact trim_app ws4 _ _ _ (by decide) (by decide)
def wideL (x : ByteArray) (l : List ByteArray) (j : Nat) : List ByteArray := (wideS x :: l.drop 1) ++ List.replicate j ⟨#[]⟩
theorem wide_len {x : ByteArray} {l : List ByteArray} (h : 0 < l.length) (j : Nat) : (wideL x l j).length = l.length + j := by
 unfold wideL; rw [List.length_append, List.length_cons, List.length_drop, List.length_replicate]; omega
theorem wide_more (x : ByteArray) (l : List ByteArray) (j : Nat) : wideL x l j ++ [⟨#[]⟩] = wideL x l (j + 1) := by
 unfold wideL; rw [List.append_assoc, ← List.replicate_succ']
theorem wide_alike {x m : ByteArray} {l : List ByteArray} (h : l[0]? = some x) (j : Nat) (hn : l.length + j = 4) : Alike (wideL x l j ++ [m]) l := by
 have h0 := (List.getElem?_eq_some_iff.1 h).1
 have hl := wide_len (x := x) h0 j
 refine ⟨?_, fun i hi1 hi3 => ?_⟩
 ·have e1 : rawV (wideL x l j ++ [m]) 0 = wideS x := rfl
  have e2 : rawV l 0 = x := by unfold rawV; rw [h]; rfl
  unfold argV
  rw [e1, e2, wide_trim]
 ·unfold rawV
  rw [List.getElem?_append_left (by rw [hl]; omega)]
  unfold wideL
  rw [List.cons_append]
  obtain ⟨k, rfl⟩ : ∃ k, i = k + 1 := ⟨i - 1, by omega⟩
  rw [List.getElem?_cons_succ]
  by_cases hk : k + 1 < l.length
  ·rw [List.getElem?_append_left (by rw [List.length_drop]; omega), List.getElem?_drop, Nat.add_comm 1 k]
  ·rw [List.getElem?_append_right (by rw [List.length_drop]; omega), show l[k + 1]? = none from List.getElem?_eq_none (by omega), List.getElem?_replicate, if_pos (by rw [List.length_drop]; omega)]
   rfl
theorem wide_sml {x m : ByteArray} {l : List ByteArray} (h : ∀ y ∈ l, y.size ≤ 300) (hx : x.size ≤ 200) (hm : m.size ≤ 100) (h0 : 0 < l.length) (j : Nat) (hn : l.length + j = 4) : Sml (wideL x l j ++ [m]) := by
 refine ⟨by rw [List.length_append, wide_len h0]; simp; omega, fun y hy => ?_⟩
 unfold wideL at hy
 simp only [List.mem_append, List.mem_cons, List.not_mem_nil, or_false, List.mem_replicate] at hy
 rcases hy with (((rfl | hy) | ⟨-, rfl⟩) | rfl)
 ·unfold wideS; rw [ByteArray.size_append, ByteArray.size_append]; show 2 + x.size + 2 ≤ _; omega
 ·have := h y (List.mem_of_mem_drop hy); omega
 ·decide
 ·omega
set_option maxHeartbeats 8000000 in
theorem law_trims (a : Int) (l : List ByteArray) (p : Option Addr) (c : Nat) (m : ByteArray) (w : World) (hS : SL w p c l) (hz : ∀ x ∈ l, x.size ≤ 9223372036854775807) (hm : m.size ≤ 9223372036854775807) (he : Env w) :
  Calls Tryz.prog 6 #[.int .i64 a, .slice p l.length c, .string m] w fun e w' => e = .returned (.bool true) ∧ Below w.heap.size w w' := by
 have hK := fun W (hb : Below w.heap.size w W) => known11_any W (he.below hb)
 have HK := Lib.hid hK
 have HE := Lib.hid he
 have hL := large_any l p c w hS hz
 have hcap := hS.1
 have hcap2 := hS.2.1
 have HS := Lib.hid hS
 have HZ := Lib.hid hz
 have hB : bits BinOp.and IntKind.i64 a 65535 = a % 65536 := mask_i64 16 (by omega) a 65535 (by decide)
 obtain ⟨k, hk⟩ : ∃ k : Nat, a % 65536 = (k : Int) := ⟨(a % 65536).toNat, by omega⟩
 have hk2 : k < 65536 := by omega
 obtain ⟨N, hN, hmem⟩ : ∃ N, nms[k % 17]? = some N ∧ N ∈ nms := ⟨nms[k % 17]'(Nat.mod_lt _ (by decide)), List.getElem?_eq_getElem _, List.getElem_mem _⟩
 have HNN := Lib.hid hN
 have HMEM := Lib.hid hmem
 have hmod : Int.tmod (a % 65536) 17 = ((k % 17 : Nat) : Int) := by rw [hk, Int.tmod_eq_emod_of_nonneg (by omega)]; simp
 have hmod2 : (a % 65536) % 17 = ((k % 17 : Nat) : Int) := by rw [hk]; simp
 have hr17 : k % 17 < 17 := Nat.mod_lt _ (by decide)
 obtain ⟨n, hn⟩ : ∃ n, n = l.length := ⟨_, rfl⟩
 rw [← hn] at hL hcap ⊢
 have HN := Lib.hid hn
 clear hK he hS hz hn hN hmem
 go_enter Tryz.func6, Tryz.ntmps6
 go_upto_region 1 with fail
 go_cut [37] from 14 to 37 (fun s37 wc => TrmR l m s37 ∧ w = wc)
 case first =>
  have T0 : TrmR l m (.bool true) := ⟨true, rfl, fun h => (by cases h)⟩
  have HT0 := Lib.hid T0
  clear T0
  go_wp2_with fail
  refine hL.mono ?_
  rintro E w1 ⟨⟨b, rfl, hb⟩, rfl⟩
  have HBB := Lib.hid hb
  clear hb hL
  cases b with
  | true =>
    go_wp2_with fail
    go_meet
    case rel => exact ⟨HT0.out, rfl⟩
  | false =>
    by_cases h0 : n = 0
    ·subst h0
     go_wp2_with fail
     go_meet
     case rel => exact ⟨HT0.out, rfl⟩
    ·have g0 : ((n : Int) == 0) = false := by simp; omega
     by_cases h4 : 4 < n
     ·have g4 : decide (4 < n) = true := decide_eq_true h4
      go_wp2_with fail
      go_meet
      case rel => exact ⟨HT0.out, rfl⟩
     ·have g4 : decide (4 < n) = false := decide_eq_false h4
      by_cases h5 : 100 < m.size
      ·have g5 : decide (100 < m.size) = true := decide_eq_true h5
       go_wp2_with fail
       go_meet
       case rel => exact ⟨HT0.out, rfl⟩
      ·have g5 : decide (100 < m.size) = false := decide_eq_false h5
       have i4 : decide ((4 : Int) < (n : Int)) = false := decide_eq_false (by omega)
       have i5 : decide ((100 : Int) < (m.size : Int)) = false := decide_eq_false (by omega)
       obtain ⟨b0, o, rfl, hbl, hcc⟩ := HS.out.all (by rw [← HN.out]; omega)
       obtain ⟨x, hx⟩ : ∃ x, l[0]? = some x := ⟨_, List.getElem?_eq_getElem (by rw [← HN.out]; omega)⟩
       have d0 := hcc 0 x hx
       rw [Nat.add_zero] at d0
       have hxs := HZ.out x (List.mem_of_getElem? hx)
       have HX := Lib.hid (show rawV l 0 = x by unfold rawV; rw [hx]; rfl)
       have hn0 : 0 < n := by omega
       clear hcc hx
       by_cases h6 : 200 < x.size
       ·have g6 : decide (200 < x.size) = true := decide_eq_true h6
        have i6 : decide ((200 : Int) < (x.size : Int)) = true := decide_eq_true (by omega)
        go_wp2_with fail
        go_meet
        case rel => exact ⟨HT0.out, rfl⟩
       ·have g6 : decide (200 < x.size) = false := decide_eq_false h6
        have i6 : decide ((200 : Int) < (x.size : Int)) = false := decide_eq_false (by omega)
        have T1 : TrmR l m (.bool false) := ⟨false, rfl, fun _ => ⟨by rw [← HN.out]; omega, by rw [← HN.out]; omega, (HBB.out rfl).2, by omega, by rw [HX.out]; omega⟩⟩
        have HT1 := Lib.hid T1
        clear T1
        go_wp2_with fail
        go_meet
        case rel => exact ⟨HT1.out, rfl⟩
 case rest =>
  obtain ⟨⟨b, rfl, hb⟩, rfl⟩ := hcut
  have HBB := Lib.hid hb
  clear hb hL
  cases b with
  | true =>
    go_wp2_with fail
    refine (HK.out _ (Below.refl _ _)).mono ?_
    rintro E w1 ⟨rfl, hb1⟩
    go_wp2_with fail
    go_ret
    exact ⟨rfl, hb1⟩
  | false =>
    obtain ⟨h1, h4, h300, h100, h200⟩ := HBB.out rfl
    go_wp2_with fail
    refine (rnames_any w).mono ?_
    rintro E w1 ⟨q, rfl, hq, hb1⟩
    obtain ⟨bq, oq, rfl, hblq, hccq⟩ := hq.all (by decide)
    have dN := hccq (k % 17) N HNN.out
    have HB1 := Lib.hid hb1
    have hS1 := HS.out.below hb1
    obtain ⟨b0, o, rfl, hbl, hcc⟩ := hS1.all h1
    obtain ⟨x, hx⟩ : ∃ x, l[0]? = some x := ⟨_, List.getElem?_eq_getElem h1⟩
    have d0 := hcc 0 x hx
    rw [Nat.add_zero] at d0
    have hxr : rawV l 0 = x := by unfold rawV; rw [hx]; rfl
    rw [hxr] at h200
    rw [← HN.out] at h1 h4
    have HS1 := Lib.hid hS1
    have HX := Lib.hid hx
    clear hq hccq hb1 hcc hxr hS1 hx
    have hws : (wideS x).size = x.size + 4 := by unfold wideS; rw [ByteArray.size_append, ByteArray.size_append]; show 2 + x.size + 2 = _; omega
    obtain ⟨X, hX⟩ : ∃ X, X = wideS x := ⟨_, rfl⟩
    have hXe : ({ data := #[32, 10] } : ByteArray) ++ x ++ { data := #[9, 32] } = X := hX.symm
    have hdl : (l.drop 1).length = n - 1 := by rw [List.length_drop, ← HN.out]
    have HX5 := Lib.hid (show (wideS x) = X from hX.symm)
    have hXs : X.size ≤ 204 := by rw [hX, hws]; omega
    have q1 : ¬ 9223372036854775807 < 2 + x.size := by omega
    have q2 : ¬ 9223372036854775807 < 2 + x.size + 2 := by omega
    clear hX hws
    go_upto_region 5 with fail
    go_cut [9] from 48 to 56 (fun s9 wc => txS.own 9 (fun _ => False) w1.heap.size wc s9 (X :: l.drop 1) ∧ Below w1.heap.size w1 wc)
    case first =>
     by_cases hc1 : c = 1
     ·subst hc1
      have hn1 : n = 1 := by omega
      subst hn1
      have hd0 : l.drop 1 = [] := List.length_eq_zero_iff.1 (by rw [hdl])
      have HD0 := Lib.hid hd0
      have hsr : ∀ W q, Below w1.heap.size w1 W → txS.src q W (.slice (some ⟨b0, o, none⟩) 0 0) [] := fun W q _ => src_sl (c := 0) (l := []) ⟨Nat.le_refl _, by decide, .inl rfl⟩ q
      have HSR := Lib.hid hsr
      clear hsr hdl hd0
      go_region_held3 (fun W => W.cell? ⟨b0, o, none⟩ = some (.string x)) (first | exact d0 | exact (((below_new0 w1 _).drew).cell (p := ⟨b0, o, none⟩) hbl).trans d0 | exact ((hbel w1 (below_new0 w1 _).drew).cell (p := ⟨b0, o, none⟩) hbl).trans d0) (first
       | (refine step_append_shp txS tyT _ (by rfl) _ _ (by rfl) (own_lit (fun _ => False) w1.drew X w1.heap.size (Nat.le_refl _)) (by rfl) (HSR.out _ _ (below_new0 w1.drew _)) (by rfl) (by show (1 + 0) * 17 ≤ _; omega) (by rw [World.size_alloc]; exact Nat.le_succ _) ?_; intro v' w4 O4 hgrow hbel hkd)
       | fail)
      all_goals
       go_wp2_with fail
       go_meet
       case rel => exact ⟨by rw [HD0.out]; exact own_lit (fun _ => False) _ _ _ (Nat.le_refl _), by first | exact below_new0 _ _ | exact (below_new0 _ _).drew⟩
     ·obtain ⟨d, rfl⟩ : ∃ d, c = d + 1 + 1 := ⟨c - 2, by omega⟩
      obtain ⟨r, rfl⟩ : ∃ r, n = r + 1 := ⟨n - 1, by omega⟩
      have hsr0 : SL w1 (some ⟨b0, o + 1, none⟩) (d + 1) (l.drop 1) := by
       obtain ⟨b1, o1, e, h2, h3⟩ := HS1.out.all (by rw [← HN.out]; omega)
       cases e
       exact HS1.out.drop h2 h3 1 (by rw [← HN.out]; omega)
      have hsr : ∀ W q, Below w1.heap.size w1 W → txS.src q W (.slice (some ⟨b0, o + 1, none⟩) r (d + 1)) (l.drop 1) := fun W q hW => by
       have := src_sl (hsr0.below hW) q
       rwa [hdl] at this
      have HSR := Lib.hid hsr
      have HDL := Lib.hid hdl
      have hrd : r ≤ d + 1 := by omega
      clear hsr hdl hsr0 hc1
      have hlen8 : (1 + (l.drop 1).length) * 17 ≤ 140737488355328 := by rw [HDL.out]; omega
      have i1 : (1 : Int) ≤ (r : Int) + 1 := by omega
      have i2 : (r : Int) + 1 ≤ (d : Int) + 1 + 1 := by omega
      have i3 : (1 : Int) ≤ (d : Int) + 1 + 1 := by omega
      have i4 : (0 : Int) ≤ (r : Int) + 1 := by omega
      have i5 : (r : Int) ≤ (d : Int) + 1 := by omega
      have i6 : (0 : Int) ≤ (r : Int) := by omega
      go_region_held3 (fun W => W.cell? ⟨b0, o, none⟩ = some (.string x)) (first | exact d0 | exact (((below_new0 w1 _).drew).cell (p := ⟨b0, o, none⟩) hbl).trans d0 | exact ((hbel w1 (below_new0 w1 _).drew).cell (p := ⟨b0, o, none⟩) hbl).trans d0) (first
       | (refine step_append_shp txS tyT _ (by rfl) _ _ (by rfl) ((own_lit (fun _ => False) w1 X w1.heap.size (Nat.le_refl _)).below (Below.refl _ _).drew) (by rfl) (HSR.out _ _ (below_new0 w1 _).drew) (by rfl) hlen8 (by show w1.heap.size ≤ (w1.alloc _).heap.size; rw [World.size_alloc]; exact Nat.le_succ _) ?_; intro v' w4 O4 hgrow hbel hkd)
       | fail)
      all_goals
       have hbn : Below w1.heap.size w1 w4 := hbel w1 (by first | exact below_new0 _ _ | exact (below_new0 _ _).drew)
       go_wp2_with fail
       go_meet
       case rel => exact ⟨O4, hbn⟩
    case rest =>
     obtain ⟨hown, hbc⟩ := hcut
     have HOWN := Lib.hid hown
     have HBC := Lib.hid hbc
     have hlm : Sml l := ⟨by rw [← HN.out]; omega, fun y hy => by have := h300 y hy; omega⟩
     obtain ⟨S, z, hO⟩ := alike_any N HMEM.out l hlm
     have cP := call_any l hlm (by rw [← HN.out]; omega) (hO l hlm ⟨rfl, fun _ _ _ => rfl⟩)
     have hl0 : 0 < l.length := by rw [← HN.out]; exact h1
     have cW := fun j (hj : n + j = 4) => call_any (wideL x l j ++ [m]) (wide_sml h300 h200 h100 hl0 j (by rw [← HN.out]; exact hj)) (by rw [List.length_append, wide_len hl0, ← HN.out]; simp; omega) (hO _ (wide_sml h300 h200 h100 hl0 j (by rw [← HN.out]; exact hj)) (wide_alike HX.out j (by rw [← HN.out]; exact hj)))
     have cW2 : ∀ j, n + j = 4 → CallP N (wideL x l j ++ [m]) (outS S z) z := cW
     generalize outS S z = V at *
     have cPW := fun W (hb : Below w1.heap.size w1 W) => cP W _ _ (HS1.out.below hb) (HE.out.below (below_then HB1.out hb))
     rw [← HN.out] at cPW
     have HCP := Lib.hid cPW
     have HCW := Lib.hid cW2
     have hwl := fun j => wide_len (x := x) hl0 j
     rw [← HN.out] at hwl
     have HWL := Lib.hid hwl
     clear hown hbc hlm hO cP cW cW2 cPW hwl hl0 h300 d0 dN
     go_wp2_with fail
     go_loopg [9] 5 (fun g s9 wr => ∃ j : Nat, n + j ≤ 4 ∧ 4 < n + j + g ∧ txS.own 9 (fun _ => False) w1.heap.size wr s9 (wideL x l j) ∧ Below w1.heap.size w1 wr)
     case atStart => exact ⟨0, by omega, by omega, by unfold wideL; rw [HX5.out]; simpa using HOWN.out, HBC.out⟩
     case round =>
      obtain ⟨j, hj4, hg, how, hbw⟩ := hrel
      obtain ⟨p', c', hvv⟩ := how.form
      have hlj : txS.len (wideL x l j) = n + j := HWL.out j
      rw [hlj] at hvv
      subst hvv
      have hsl := how.sl
      have HOW := Lib.hid how
      have HBW := Lib.hid hbw
      have HLJ := Lib.hid hlj
      clear how hbw hsl hlj
      by_cases hlt : n + j < 4
      ·have g1 : decide (n + j < 4) = true := decide_eq_true hlt
       have g2 : decide ((n : Int) + (j : Int) < 4) = true := decide_eq_true (by omega)
       have hoA := HOW.out.below (below_new0 wr (.cells #[.string ⟨#[]⟩] 9))
       have HOA := Lib.hid hoA
       have hzW : w1.heap.size ≤ (wr.alloc (.cells #[.string ⟨#[]⟩] 9)).heap.size := by rw [World.size_alloc]; have := HBW.out.size; omega
       clear hoA
       go_wp2_with (at_builtin; go_must (refine append_shp txS tyT _ rfl _ _ rfl HOA.out rfl (src_tx (s := ⟨#[]⟩)) rfl (by rw [HLJ.out]; show (n + j + 1) * 17 ≤ _; omega) hzW ?_); intro v' w4 O4 hgrow hbel hkd)
       have hbn : Below w1.heap.size w1 w4 := hbel w1 (HBW.out.trans ((below_new0 wr _).mono HBW.out.size))
       have O5 : txS.own 9 (fun _ => False) w1.heap.size w4 v' (wideL x l (j + 1)) := by rw [← wide_more]; exact O4
       clear hgrow hbel hkd O4
       go_roundg (4 - (n + j))
       case measure => omega
       case rel => exact ⟨j + 1, by omega, by omega, O5, hbn⟩
      ·have g1 : decide (n + j < 4) = false := decide_eq_false hlt
       have g2 : decide ((n : Int) + (j : Int) < 4) = false := decide_eq_false (by omega)
       have HJ := Lib.hid (show n + j = 4 by omega)
       go_wp2_with fail
       refine (HCP.out wr HBW.out).mono ?_
       rintro E w5 ⟨rfl, hb5⟩
       have how5 := HOW.out.below hb5
       have hoA := how5.below (below_new0 w5 (.cells #[.string m] 9))
       have HOA := Lib.hid hoA
       have hb15 : Below w1.heap.size w1 w5 := HBW.out.trans (hb5.mono HBW.out.size)
       have HB15 := Lib.hid hb15
       have hzW : w1.heap.size ≤ (w5.alloc (.cells #[.string m] 9)).heap.size := by rw [World.size_alloc]; have := hb15.size; omega
       clear how5 hoA hb5 hb15
       go_wp2_with (at_builtin; go_must (refine append_shp txS tyT _ rfl _ _ rfl HOA.out rfl (src_tx (s := m)) rfl (by rw [HLJ.out]; show (n + j + 1) * 17 ≤ _; omega) hzW ?_); intro v' w6 O6 hgrow hbel hkd)
       have hbn : Below w1.heap.size w1 w6 := hbel w1 (HB15.out.trans ((below_new0 w5 _).mono HB15.out.size))
       have O7 : txS.own 9 (fun _ => False) w1.heap.size w6 v' (wideL x l j ++ [m]) := O6
       obtain ⟨p6, c6, hv6⟩ := O7.form
       have hv6 : v' = .slice p6 (wideL x l j ++ [m]).length c6 := hv6
       subst hv6
       have hSL := SL.of_sl (by exact O7.sl)
       have hC7 := HCW.out j HJ.out w6 p6 c6 hSL (HE.out.below (below_then HB1.out hbn))
       have HC7 := Lib.hid hC7
       have HBN := Lib.hid hbn
       clear hgrow hbel hkd O6 O7 hSL hC7 hbn
       refine HC7.out.mono ?_
       rintro E w8 ⟨rfl, hb8⟩
       have hbx := below_then HB1.out (HBN.out.trans (hb8.mono HBN.out.size))
       clear hb8
       go_wp2_with fail
       refine (HK.out _ hbx).mono ?_
       rintro E w9 ⟨rfl, hb9⟩
       go_wp2_with fail
       go_ret
       exact ⟨rfl, below_then hbx hb9⟩
end Go.Proofs.YtcklofamaooegaaGreatDoor
namespace Go.Proofs.YtcklofamaooegaaGreatDoor
open Go.RowKit Go.ChangeShapes Go.WideShapes
theorem spot_of_cell {w : World} {a : Addr} {v : Value} (h : w.cell? a = some v) : a.spot = none := by
 unfold World.cell? at h
 split at h
 ·split at h
  ·cases h
  ·rename_i h1; simpa using h1
 ·cases h
set_option maxRecDepth 20000 in
theorem open_strs {H : Type} {enc : TypeId × Value → H} {w : World} {base : Nat} {spare : Nat → Bool} {held : Bool} {r : Reach} {b0 : Nat} {v : Value} {d : DataW H} {p : List MemPlace} (hv : Value.okWide Tryz.prog w r b0 22 v) (h : DataW.Trod enc Tryz.prog w base spare held 22 v d p) :
  ∃ (a : Option Addr) (l : List ByteArray) (c : Nat), v = .slice a l.length c ∧ SL w a c l ∧ ∀ x ∈ l, x.size ≤ 9223372036854775807 := by
 obtain ⟨a, len, cap, rfl⟩ := okWide_slice Tryz.underlying22 hv
 obtain ⟨fuel, hf⟩ := h
 rcases open_strings Tryz.underlying22 Tryz.underlying9 (by kernel_rfl) hf with ⟨hcs, _⟩ | ⟨x, l, c, ss, hcs, _, hl, hm, hlen, _, hcell, hsz⟩
 ·simp [Value.cells] at hcs
  obtain ⟨rfl, rfl, rfl⟩ := hcs
  exact ⟨none, [], 0, rfl, SL.none_left, fun x hx => by cases hx⟩
 ·simp [Value.cells] at hcs
  obtain ⟨rfl, rfl, rfl⟩ := hcs
  have hll : len ≤ ss.length := by
   rw [hlen]; split <;> omega
  have hl2 : (ss.take len).length = len := by rw [List.length_take]; omega
  unfold maxLen at hm
  refine ⟨some x, ss.take len, cap, by rw [hl2], ⟨by rw [hl2]; exact hl, by omega, ?_⟩, fun y hy => by have := hsz y (List.mem_of_mem_take hy); unfold maxLen at this; omega⟩
  by_cases h0 : len = 0
  ·exact .inl (by rw [h0, List.take_zero])
  ·have h1 := hcell 0 (by omega)
   have hx0 : x.add 0 = x := rfl
   rw [hx0] at h1
   have hs := spot_of_cell h1
   have hlt := World.block_lt_of_cell? w _ h1
   obtain ⟨xb, xo, xs⟩ := x
   simp only at hs
   subst hs
   refine .inr ⟨xb, xo, rfl, hlt, fun j y hj => ?_⟩
   have hjl : j < len := by have := (List.getElem?_eq_some_iff.1 hj).1; omega
   rw [List.getElem?_take, if_pos hjl] at hj
   have h2 := hcell j (by omega)
   rw [List.getD_eq_getElem?_getD, hj] at h2
   have e : (⟨xb, xo, none⟩ : Addr).add j = ⟨xb, xo + j, none⟩ := by
    unfold Addr.add
    split
    ·rename_i hj0; rw [hj0]; rfl
    ·rfl
   rw [e] at h2
   exact h2
end Go.Proofs.YtcklofamaooegaaGreatDoor
