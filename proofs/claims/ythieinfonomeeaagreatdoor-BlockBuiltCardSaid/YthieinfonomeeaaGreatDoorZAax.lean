/-
  The claim's own texts, packed. Conditions: those typed in each theorem.
-/
import Derived.Test.YthieinfonomeeaaGreatDoorZAav
import Derived.Laws.Cover1
import Derived.Test.YthieinfonomeeaaGreatDoorZAaj
import Derived.Deep.RegionHeld3
import Derived.Test.YthieinfonomeeaaGreatDoorZAac
import Derived.Test.YthieinfonomeeaaGreatDoorZAaw
namespace Go.Proofs.YthieinfonomeeaaGreatDoor
open Go.RowKit Doc Tit Inl Blk
set_option linter.unusedVariables false
attribute [local go_sem ↓] Go.wp_at_zero Go.wp_at_succ
theorem eqs_fun (l : List UInt8) : eqs l = (l.takeWhile (fun c => decide (c = 61))).length := rfl
theorem rtrim_le (p : UInt8 → Bool) (l : List UInt8) : (rtrim p l).length ≤ l.length := by
 unfold rtrim
 rw [List.length_reverse]
 refine Nat.le_trans (dw_le _ _) ?_
 rw [List.length_reverse]
 exact Nat.le_refl _
theorem rtrimS_eq (l cs : List UInt8) : Lib.trimRightS l cs = rtrim (cs.contains ·) l := rfl
theorem eqs_room {t : List UInt8} (h : eqs t ≠ t.length) : eqs t + eqs t.reverse ≤ t.length := by
 have h1 := tw_dw (fun c => decide (c = 61)) t
 have h2 := tw_dw (fun c => decide (c = 61)) t.reverse
 rw [List.length_reverse] at h2
 unfold eqs at h ⊢
 generalize he : (fun c : UInt8 => decide (c = 61)) = p at *
 cases hd : t.dropWhile p with
 | nil => rw [hd] at h1; simp at h1; exact absurd h1 h
 | cons x d =>
   have hx : p x = false := by
    have := List.head?_dropWhile_not p t
    rw [hd] at this
    simpa using this
   have ht : t = t.takeWhile p ++ x :: d := by rw [← hd]; exact (List.takeWhile_append_dropWhile (p := p) (l := t)).symm
   have hr : t.reverse = d.reverse ++ x :: (t.takeWhile p).reverse := by
    conv => lhs; rw [ht]
    simp
   have hl : (t.reverse.takeWhile p).length ≤ d.length := by
    rw [hr]
    have h3 : ∀ (a b : List UInt8), ((a ++ x :: b).takeWhile p).length ≤ a.length := by
     intro a b
     induction a with
     | nil => simp [hx]
     | cons y a ih =>
       rw [List.cons_append, List.takeWhile_cons]
       split
       ·simpa using ih
       ·simp
    have := h3 d.reverse (t.takeWhile p).reverse
    simpa using this
   have h4 := congrArg List.length ht
   simp only [List.length_append, List.length_cons] at h4
   omega
set_option maxRecDepth 10000 in
set_option maxHeartbeats 2000000 in
theorem pheading_any (s : ByteArray) (w : World) (hs : s.size ≤ 100000000) : Calls Tryz.prog 62 #[.string s] w fun e w' => ∃ k : Nat, e = .returned (.tuple #[.int .i64 (((hd s.data.toList).map (·.1)).getD k : Nat), .string ⟨(((hd s.data.toList).map (·.2)).getD []).toArray⟩, .bool (hd s.data.toList).isSome]) ∧ Below w.heap.size w w' := by
 have hz : s.data.toList.length = s.size := by simp
 have h1 := ptrimright_set s [32, 9] w hs (by decide) (by decide)
 rw [rtrimS_eq, bt_set] at h1
 have hrl := rtrim_le bt s.data.toList
 have hhd : hd s.data.toList = hdT (rtrim bt s.data.toList) := rfl
 rw [hhd]
 obtain ⟨T, hT⟩ : ∃ T : ByteArray, T = ⟨(rtrim bt s.data.toList).toArray⟩ := ⟨_, rfl⟩
 have hTl : T.data.toList = rtrim bt s.data.toList := by rw [hT]
 rw [← hT] at h1
 rw [← hTl] at hrl ⊢
 have hTs : T.data.toList.length = T.size := by simp
 have h2 := fun W => ptrimleft_set T [61] W (by omega) (by decide) (by decide)
 unfold Lib.trimLeftS at h2
 rw [one_set] at h2
 have h3 := fun W => ptrimright_set T [61] W (by omega) (by decide) (by decide)
 rw [rtrimS_eq, one_set] at h3
 have e1 := tw_dw (fun c => decide (c = 61)) T.data.toList
 have e2 := tw_dw (fun c => decide (c = 61)) T.data.toList.reverse
 rw [← eqs_fun] at e1 e2
 rw [List.length_reverse] at e2
 obtain ⟨A, hA⟩ : ∃ A : ByteArray, A = ⟨(T.data.toList.dropWhile (fun c => decide (c = 61))).toArray⟩ := ⟨_, rfl⟩
 obtain ⟨B, hB⟩ : ∃ B : ByteArray, B = ⟨(rtrim (fun c => decide (c = 61)) T.data.toList).toArray⟩ := ⟨_, rfl⟩
 have hAs : A.size = (T.data.toList.dropWhile (fun c => decide (c = 61))).length := by rw [hA]; simp [ByteArray.size]
 have hBs : B.size = (T.data.toList.reverse.dropWhile (fun c => decide (c = 61))).length := by rw [hB]; simp [ByteArray.size, rtrim]
 rw [← hA] at h2
 rw [← hB] at h3
 rw [← hAs, hTs] at e1
 rw [← hBs, hTs] at e2
 have hroom := eqs_room (t := T.data.toList)
 have hdt : hdT T.data.toList = if eqs T.data.toList = 0 ∨ eqs T.data.toList.reverse = 0 ∨ eqs T.data.toList = T.data.toList.length then none
  else if trimW bt ((T.data.toList.drop (min 6 (min (eqs T.data.toList) (eqs T.data.toList.reverse)))).take (T.data.toList.length - min 6 (min (eqs T.data.toList) (eqs T.data.toList.reverse)) - min 6 (min (eqs T.data.toList) (eqs T.data.toList.reverse)))) = [] then none
  else some (min 6 (min (eqs T.data.toList) (eqs T.data.toList.reverse)), trimW bt ((T.data.toList.drop (min 6 (min (eqs T.data.toList) (eqs T.data.toList.reverse)))).take (T.data.toList.length - min 6 (min (eqs T.data.toList) (eqs T.data.toList.reverse)) - min 6 (min (eqs T.data.toList) (eqs T.data.toList.reverse))))) := rfl
 obtain ⟨a, ha⟩ : ∃ a, a = eqs T.data.toList := ⟨_, rfl⟩
 obtain ⟨b, hb⟩ : ∃ b, b = eqs T.data.toList.reverse := ⟨_, rfl⟩
 rw [← ha] at e1
 rw [← hb] at e2
 rw [hTs, ← ha, ← hb] at hroom
 rw [hTs, ← ha, ← hb] at hdt
 have hT8 : T.size ≤ 100000000 := by omega
 have ha8 : a ≤ 100000000 := by omega
 have hb8 : b ≤ 100000000 := by omega
 have f1 : (T.size : Int) - (A.size : Int) = (a : Int) := by omega
 have f2 : (T.size : Int) - (B.size : Int) = (b : Int) := by omega
 have H1 := Lib.hid h1
 have H2 := Lib.hid h2
 have H3 := Lib.hid h3
 have HDT := Lib.hid hdt
 have HTS := Lib.hid hTs
 clear h1 h2 h3 hhd hT hTl hA hB hAs hBs ha hb hz hdt hTs
 by_cases hn : a = 0 ∨ b = 0 ∨ a = T.size
 ·have hnone : hdT T.data.toList = none := by rw [HDT.out, if_pos hn]
  rw [hnone]
  obtain ⟨c, hc⟩ : ∃ c : Bool, c = true := ⟨_, rfl⟩
  go_enter Tryz.func62, Tryz.ntmps62
  go_wp2_with fail
  refine H1.out.mono ?_
  rintro e w1 ⟨rfl, hb1⟩
  go_wp2_with fail
  refine (H2.out _).mono ?_
  rintro e w2 ⟨rfl, hb2⟩
  go_wp2_with fail
  refine (H3.out _).mono ?_
  rintro e w3 ⟨rfl, hb3⟩
  have HB3 := Lib.hid (below_then (below_then hb1 hb2) hb3)
  clear hb1 hb2 hb3
  by_cases ha0 : a = 0
  ·have g1 : ((a : Int) == 0) = true := by simp; omega
   clear hn ha0
   go_wp2_with fail
   exact bodyPost_ret (v := .tuple #[.int .i64 0, .string ⟨#[]⟩, .bool false]) (by simp [results, Tryz.results62, go_sem]) rfl ⟨0, rfl, HB3.out⟩
  ·have g1 : ((a : Int) == 0) = false := by simp; omega
   by_cases hb0 : b = 0
   ·have g2 : ((b : Int) == 0) = true := by simp; omega
    clear hn ha0 hb0
    go_wp2_with fail
    exact bodyPost_ret (v := .tuple #[.int .i64 0, .string ⟨#[]⟩, .bool false]) (by simp [results, Tryz.results62, go_sem]) rfl ⟨0, rfl, HB3.out⟩
   ·have g2 : ((b : Int) == 0) = false := by simp; omega
    have g3 : ((a : Int) == (T.size : Int)) = true := by simp; omega
    clear hn ha0 hb0
    go_wp2_with fail
    exact bodyPost_ret (v := .tuple #[.int .i64 0, .string ⟨#[]⟩, .bool false]) (by simp [results, Tryz.results62, go_sem]) rfl ⟨0, rfl, HB3.out⟩
 ·have g1 : ((a : Int) == 0) = false := by simp; omega
  have g2 : ((b : Int) == 0) = false := by simp; omega
  have g3 : ((a : Int) == (T.size : Int)) = false := by simp; omega
  have hroom := hroom (by omega)
  obtain ⟨n, hnn⟩ : ∃ n, n = min 6 (min a b) := ⟨_, rfl⟩
  have hn6 : n ≤ 6 ∧ n ≤ a ∧ n ≤ b := by omega
  go_enter Tryz.func62, Tryz.ntmps62
  go_wp2_with fail
  refine H1.out.mono ?_
  rintro e w1 ⟨rfl, hb1⟩
  go_wp2_with fail
  refine (H2.out _).mono ?_
  rintro e w2 ⟨rfl, hb2⟩
  go_wp2_with fail
  refine (H3.out _).mono ?_
  rintro e w3 ⟨rfl, hb3⟩
  have HB3 := Lib.hid (below_then (below_then hb1 hb2) hb3)
  clear hb1 hb2 hb3
  go_upto_region 6 with fail
  go_cut [7] from 35 to 37 (fun s7 wc => s7 = .int .i64 (n : Nat) ∧ w3 = wc)
  case first =>
   clear hn
   go_wp2_with fail
   all_goals
    go_meet
    case rel => exact ⟨by congr 1; omega, rfl⟩
  case rest =>
   obtain ⟨rfl, rfl⟩ := hcut
   have hn2 : n + n ≤ T.size := by omega
   have hX : (T.extract n (T.size - n)).data.toList = (T.data.toList.drop n).take (T.size - n - n) := by
    rw [ByteArray.data_extract, Array.toList_extract]
   have h4 := fun W => ptrim_set (T.extract n (T.size - n)) [32, 9] W (by rw [ByteArray.size_extract]; omega) (by decide) (by decide)
   rw [trimS_eq, bt_set, hX] at h4
   have hdt := HDT.out
   rw [if_neg hn, ← hnn] at hdt
   obtain ⟨M, hM⟩ : ∃ M, trimW bt ((T.data.toList.drop n).take (T.size - n - n)) = M := ⟨_, rfl⟩
   rw [hM] at h4 hdt
   have he := mk_isEmpty M
   obtain ⟨N, hN⟩ : ∃ N : ByteArray, ⟨M.toArray⟩ = N := ⟨_, rfl⟩
   rw [hN] at h4 he
   have H4 := Lib.hid h4
   have HNN := Lib.hid hN
   clear h4 hX hM hnn hn hN
   by_cases hm : M = []
   ·rw [if_pos hm] at hdt
    rw [hm] at he
    have he : N.toList.isEmpty = true := he
    have HD := Lib.hid hdt
    have hN0 : N = ⟨#[]⟩ := by rw [← HNN.out, hm]
    have HN0 := Lib.hid hN0
    clear hdt hm HDT hN0
    go_wp2_with fail
    refine (H4.out _).mono ?_
    rintro e w4 ⟨rfl, hb4⟩
    go_wp2_with fail
    exact bodyPost_ret (v := .tuple #[.int .i64 (n : Nat), .string N, .bool false]) (by simp [results, Tryz.results62, go_sem]) rfl ⟨n, by rw [HD.out, HN0.out]; rfl, below_then HB3.out hb4⟩
   ·rw [if_neg hm] at hdt
    have he : N.toList.isEmpty = false := by
     rw [he]
     cases M with
     | nil => exact absurd rfl hm
     | cons _ _ => rfl
    have HD := Lib.hid hdt
    clear hdt HDT
    go_wp2_with fail
    refine (H4.out _).mono ?_
    rintro e w4 ⟨rfl, hb4⟩
    go_wp2_with fail
    exact bodyPost_ret (v := .tuple #[.int .i64 (n : Nat), .string N, .bool true]) (by simp [results, Tryz.results62, go_sem, hm]) rfl ⟨n, by rw [HD.out, ← HNN.out]; rfl, below_then HB3.out hb4⟩
end Go.Proofs.YthieinfonomeeaaGreatDoor
namespace Go.Proofs.YthieinfonomeeaaGreatDoor
open Go.RowKit Doc Tit Inl Blk
set_option linter.unusedVariables false
attribute [local go_sem ↓] Go.wp_at_zero Go.wp_at_succ
theorem u8_num (c : UInt8) (n : Nat) (hn : n < 256) : ((c.toNat : Int) == (n : Int)) = (c == UInt8.ofNat n) := by
 rw [Bool.eq_iff_iff]
 simp only [beq_iff_eq]
 constructor
 ·intro h
  have : c.toNat = n := by omega
  rw [← this, UInt8.ofNat_toNat]
 ·rintro rfl
  rw [UInt8.toNat_ofNat']
  have : n % 2 ^ 8 = n := Nat.mod_eq_of_lt hn
  rw [this]
theorem isEmpty_cons {s : ByteArray} {c : UInt8} {r : List UInt8} (h : s.data.toList = c :: r) : s.toList.isEmpty = false := by rw [Lib.toList_data, h]; rfl
theorem first_byte {s : ByteArray} {c : UInt8} {r : List UInt8} (h : s.data.toList = c :: r) : ∃ h0 : 0 < s.size, s[0]'h0 = c := by
 have hz : s.data.toList.length = s.size := by simp
 have h0 : 0 < s.size := by rw [← hz, h]; simp
 refine ⟨h0, ?_⟩
 have h1 : s.data.toList[0]? = some (s[0]'h0) := Lib.data_getElem? s 0 h0
 rw [h] at h1
 injection h1 with h1
 exact h1.symm
set_option maxRecDepth 10000 in
theorem plisted_any (s : ByteArray) (w : World) : Calls Tryz.prog 64 #[.string s] w fun e w' => e = .returned (.bool (listL s.data.toList)) ∧ Below w.heap.size w w' := by
 cases hl : s.data.toList with
 | nil =>
   have he : s.toList.isEmpty = true := by rw [Lib.toList_data, hl]; rfl
   have hv : listL [] = false := rfl
   rw [hv]
   clear hl hv
   go_enter Tryz.func64, Tryz.ntmps64
   go_wp2_with fail
   go_ret
   exact ⟨rfl, Below.refl _ _⟩
 | cons c r =>
   have he := isEmpty_cons hl
   obtain ⟨h0, hx⟩ := first_byte hl
   have hv : listL (c :: r) = ((c == 42) || (c == 35)) := rfl
   have e1 : ((c.toNat : Int) == 42) = (c == 42) := u8_num c 42 (by decide)
   have e2 : ((c.toNat : Int) == 35) = (c == 35) := u8_num c 35 (by decide)
   obtain ⟨b1, h1⟩ : ∃ b, (c == 42) = b := ⟨_, rfl⟩
   obtain ⟨b2, h2⟩ : ∃ b, (c == 35) = b := ⟨_, rfl⟩
   rw [hv, h1, h2]
   rw [h1] at e1
   rw [h2] at e2
   clear hl hv h1 h2
   cases b1 with
   | true =>
     clear e2
     go_enter Tryz.func64, Tryz.ntmps64
     go_wp2_with fail
     go_ret
     exact ⟨rfl, Below.refl _ _⟩
   | false =>
     cases b2 with
     | true =>
       go_enter Tryz.func64, Tryz.ntmps64
       go_wp2_with fail
       go_ret
       exact ⟨rfl, Below.refl _ _⟩
     | false =>
       go_enter Tryz.func64, Tryz.ntmps64
       go_wp2_with fail
       go_ret
       exact ⟨rfl, Below.refl _ _⟩
set_option maxRecDepth 10000 in
set_option maxHeartbeats 2000000 in
theorem pkind_any (s : ByteArray) (w : World) (hs : s.size ≤ 100000000) : Calls Tryz.prog 58 #[.string s] w fun e w' => e = .returned (.int .i64 (kindL s.data.toList : Nat)) ∧ Below w.heap.size w w' := by
 have hE := pempty_any s w hs
 have hP := fun W => Tryz.strings_HasPrefix s ⟨#[123, 124]⟩ W
 have ep : (⟨#[123, 124]⟩ : ByteArray).data.toList = [123, 124] := rfl
 rw [ep] at hP
 have hH := fun W => pheading_any s W hs
 have hR := fun W => prule_any s W hs
 have hk : kindL s.data.toList = if emptyL s.data.toList then 0 else if Lib.hasPrefix s.data.toList [123, 124] then 1 else if (hd s.data.toList).isSome then 2 else if ruleL s.data.toList then 3 else if listL s.data.toList then 4 else if codeL s.data.toList then 5 else 6 := rfl
 cases h1 : emptyL s.data.toList with
 | true =>
   rw [h1] at hE hk
   rw [hk, if_pos rfl]
   have HE := Lib.hid hE
   clear hE hP hH hR hk ep h1
   go_enter Tryz.func58, Tryz.ntmps58
   go_wp2_with fail
   refine HE.out.mono ?_
   rintro e w1 ⟨rfl, hb1⟩
   go_wp2_with fail
   go_ret
   exact ⟨rfl, hb1⟩
 | false =>
 rw [h1] at hE hk
 rw [if_neg (by decide)] at hk
 cases h2 : Lib.hasPrefix s.data.toList [123, 124] with
 | true =>
   rw [h2] at hP hk
   rw [hk, if_pos rfl]
   have HE := Lib.hid hE
   have HP := Lib.hid hP
   clear hE hP hH hR hk ep h1 h2
   go_enter Tryz.func58, Tryz.ntmps58
   go_wp2_with fail
   refine HE.out.mono ?_
   rintro e w1 ⟨rfl, hb1⟩
   go_wp2_with fail
   refine (HP.out _).mono ?_
   rintro e w2 ⟨rfl, rfl⟩
   go_wp2_with fail
   go_ret
   exact ⟨rfl, hb1⟩
 | false =>
 rw [h2] at hP hk
 rw [if_neg (by decide)] at hk
 cases h3 : (hd s.data.toList).isSome with
 | true =>
   rw [h3] at hH hk
   rw [hk, if_pos rfl]
   generalize ((hd s.data.toList).map (·.1)).getD = F at hH
   generalize (⟨(((hd s.data.toList).map (·.2)).getD []).toArray⟩ : ByteArray) = T at hH
   have HE := Lib.hid hE
   have HP := Lib.hid hP
   have HH := Lib.hid hH
   clear hE hP hH hR hk ep h1 h2 h3
   go_enter Tryz.func58, Tryz.ntmps58
   go_wp2_with fail
   refine HE.out.mono ?_
   rintro e w1 ⟨rfl, hb1⟩
   go_wp2_with fail
   refine (HP.out _).mono ?_
   rintro e w2 ⟨rfl, rfl⟩
   go_wp2_with fail
   refine (HH.out _).mono ?_
   rintro e w3 ⟨k, rfl, hb3⟩
   go_wp2_with fail
   go_ret
   exact ⟨rfl, below_then hb1 hb3⟩
 | false =>
 rw [h3] at hH hk
 rw [if_neg (by decide)] at hk
 generalize ((hd s.data.toList).map (·.1)).getD = F at hH
 generalize (⟨(((hd s.data.toList).map (·.2)).getD []).toArray⟩ : ByteArray) = T at hH
 cases h4 : ruleL s.data.toList with
 | true =>
   rw [h4] at hR hk
   rw [hk, if_pos rfl]
   have HE := Lib.hid hE
   have HP := Lib.hid hP
   have HH := Lib.hid hH
   have HR := Lib.hid hR
   clear hE hP hH hR hk ep h1 h2 h3 h4
   go_enter Tryz.func58, Tryz.ntmps58
   go_wp2_with fail
   refine HE.out.mono ?_
   rintro e w1 ⟨rfl, hb1⟩
   go_wp2_with fail
   refine (HP.out _).mono ?_
   rintro e w2 ⟨rfl, rfl⟩
   go_wp2_with fail
   refine (HH.out _).mono ?_
   rintro e w3 ⟨k, rfl, hb3⟩
   go_wp2_with fail
   refine (HR.out _).mono ?_
   rintro e w4 ⟨rfl, hb4⟩
   go_wp2_with fail
   go_ret
   exact ⟨rfl, below_then (below_then hb1 hb3) hb4⟩
 | false =>
 rw [h4] at hR hk
 rw [if_neg (by decide)] at hk
 cases hl : s.data.toList with
 | nil => rw [hl] at h1; cases h1
 | cons c r =>
   obtain ⟨h0, hx⟩ := first_byte hl
   have hv : listL (c :: r) = ((c == 42) || (c == 35)) := rfl
   have hv2 : codeL (c :: r) = (c == 32) := rfl
   rw [hl, hv, hv2] at hk
   rw [hk]
   have e1 : ((c.toNat : Int) == 42) = (c == 42) := u8_num c 42 (by decide)
   have e2 : ((c.toNat : Int) == 35) = (c == 35) := u8_num c 35 (by decide)
   have e3 : ((c.toNat : Int) == 32) = (c == 32) := u8_num c 32 (by decide)
   obtain ⟨b1, g1⟩ : ∃ b, (c == 42) = b := ⟨_, rfl⟩
   obtain ⟨b2, g2⟩ : ∃ b, (c == 35) = b := ⟨_, rfl⟩
   obtain ⟨b3, g3⟩ : ∃ b, (c == 32) = b := ⟨_, rfl⟩
   rw [g1, g2, g3]
   rw [g1] at e1
   rw [g2] at e2
   rw [g3] at e3
   have HE := Lib.hid hE
   have HP := Lib.hid hP
   have HH := Lib.hid hH
   have HR := Lib.hid hR
   clear hE hP hH hR hk ep h1 h2 h3 h4 hl hv hv2 g1 g2 g3
   go_enter Tryz.func58, Tryz.ntmps58
   go_wp2_with fail
   refine HE.out.mono ?_
   rintro e w1 ⟨rfl, hb1⟩
   go_wp2_with fail
   refine (HP.out _).mono ?_
   rintro e w2 ⟨rfl, rfl⟩
   go_wp2_with fail
   refine (HH.out _).mono ?_
   rintro e w3 ⟨k, rfl, hb3⟩
   go_wp2_with fail
   refine (HR.out _).mono ?_
   rintro e w4 ⟨rfl, hb4⟩
   have HB := Lib.hid (below_then (below_then hb1 hb3) hb4)
   clear hb1 hb3 hb4
   cases b1 with
   | true =>
     clear e2 e3
     go_wp2_with fail
     go_ret
     exact ⟨rfl, HB.out⟩
   | false =>
     cases b2 with
     | true =>
       clear e3
       go_wp2_with fail
       go_ret
       exact ⟨rfl, HB.out⟩
     | false =>
       cases b3 with
       | true =>
         go_wp2_with fail
         go_ret
         exact ⟨rfl, HB.out⟩
       | false =>
         go_wp2_with fail
         go_ret
         exact ⟨rfl, HB.out⟩
end Go.Proofs.YthieinfonomeeaaGreatDoor
namespace Go.Proofs.YthieinfonomeeaaGreatDoor
open Go.RowKit Doc Tit Inl Blk
set_option linter.unusedVariables false
attribute [local go_sem ↓] Go.wp_at_zero Go.wp_at_succ
theorem pfirst1_any (s : ByteArray) (w : World) (hs : s.size ≤ 100000000) : Calls Tryz.prog 60 #[.string s] w fun e w' => e = .returned (.bool (!(Lib.hasPrefix s.data.toList [124, 125]))) ∧ Below w.heap.size w w' := by
 have hP := Tryz.strings_HasPrefix s ⟨#[124, 125]⟩ w
 have ep : (⟨#[124, 125]⟩ : ByteArray).data.toList = [124, 125] := rfl
 rw [ep] at hP
 obtain ⟨b, hb⟩ : ∃ b, Lib.hasPrefix s.data.toList [124, 125] = b := ⟨_, rfl⟩
 rw [hb] at hP ⊢
 have HP := Lib.hid hP
 clear hP hb ep
 go_enter Tryz.func60, Tryz.ntmps60
 go_wp2_with fail
 refine HP.out.mono ?_
 rintro e w2 ⟨rfl, rfl⟩
 go_wp2_with fail
 go_ret
 exact ⟨rfl, Below.refl _ _⟩
theorem pfirst2_any (s : ByteArray) (w : World) (hs : s.size ≤ 100000000) : Calls Tryz.prog 67 #[.string s] w fun e w' => e = .returned (.bool (!(emptyL s.data.toList) && codeL s.data.toList)) ∧ Below w.heap.size w w' := by
 have hE := pempty_any s w hs
 cases h1 : emptyL s.data.toList with
 | true =>
   rw [h1] at hE
   have HE := Lib.hid hE
   clear hE h1
   go_enter Tryz.func67, Tryz.ntmps67
   go_wp2_with fail
   refine HE.out.mono ?_
   rintro e w2 ⟨rfl, hb⟩
   go_wp2_with fail
   go_ret
   exact ⟨rfl, hb⟩
 | false =>
   rw [h1] at hE
   cases hl : s.data.toList with
   | nil => rw [hl] at h1; cases h1
   | cons c r =>
     obtain ⟨h0, hx⟩ := first_byte hl
     have hv : codeL (c :: r) = (c == 32) := rfl
     have e3 : ((c.toNat : Int) == 32) = (c == 32) := u8_num c 32 (by decide)
     obtain ⟨b3, g3⟩ : ∃ b, (c == 32) = b := ⟨_, rfl⟩
     rw [hv, g3]
     rw [g3] at e3
     have HE := Lib.hid hE
     clear hE h1 hl hv g3
     cases b3 with
     | true =>
       go_enter Tryz.func67, Tryz.ntmps67
       go_wp2_with fail
       refine HE.out.mono ?_
       rintro e w2 ⟨rfl, hb⟩
       go_wp2_with fail
       go_ret
       exact ⟨rfl, hb⟩
     | false =>
       go_enter Tryz.func67, Tryz.ntmps67
       go_wp2_with fail
       refine HE.out.mono ?_
       rintro e w2 ⟨rfl, hb⟩
       go_wp2_with fail
       go_ret
       exact ⟨rfl, hb⟩
theorem pfirst3_any (s : ByteArray) (w : World) (hs : s.size ≤ 100000000) : Calls Tryz.prog 70 #[.string s] w fun e w' => e = .returned (.bool (decide (kindL s.data.toList = 6))) ∧ Below w.heap.size w w' := by
 have hE := pkind_any s w hs
 obtain ⟨n, hn⟩ : ∃ n, kindL s.data.toList = n := ⟨_, rfl⟩
 rw [hn] at hE ⊢
 have HE := Lib.hid hE
 clear hE hn
 by_cases h : n = 6
 ·subst h
  go_enter Tryz.func70, Tryz.ntmps70
  go_wp2_with fail
  refine HE.out.mono ?_
  rintro e w2 ⟨rfl, hb⟩
  go_wp2_with fail
  go_ret
  exact ⟨rfl, hb⟩
 ·have g1 : ((n : Int) == 6) = false := beq_eq_false_iff_ne.2 (by omega)
  rw [decide_eq_false h]
  clear h
  go_enter Tryz.func70, Tryz.ntmps70
  go_wp2_with fail
  refine HE.out.mono ?_
  rintro e w2 ⟨rfl, hb⟩
  go_wp2_with fail
  go_ret
  exact ⟨rfl, hb⟩
theorem enters_first1 : ∀ args w, (callFunc 60 args).run Tryz.prog w = .ok (.enter 60 args) w := enters_of Tryz.func60 (by kernel_rfl) rfl
theorem enters_first2 : ∀ args w, (callFunc 67 args).run Tryz.prog w = .ok (.enter 67 args) w := enters_of Tryz.func67 (by kernel_rfl) rfl
theorem enters_first3 : ∀ args w, (callFunc 70 args).run Tryz.prog w = .ok (.enter 70 args) w := enters_of Tryz.func70 (by kernel_rfl) rfl
theorem enters_listed : ∀ args w, (callFunc 64 args).run Tryz.prog w = .ok (.enter 64 args) w := enters_of Tryz.func64 (by kernel_rfl) rfl
theorem twl_le {α : Type} (p : α → Bool) (l : List α) : (l.takeWhile p).length ≤ l.length := by
 have h := congrArg List.length (List.takeWhile_append_dropWhile (p := p) (l := l))
 rw [List.length_append] at h
 omega
def Short (l : List ByteArray) : Prop := ∀ x ∈ l, x.size ≤ 100000000
set_option maxRecDepth 10000 in
set_option maxHeartbeats 1000000 in
theorem pwhile_any (F : Nat) (pr : Line → Bool) (x : ByteArray) (l : List ByteArray) (p : Option Addr) (c : Nat) (w : World) (hF : ∀ args w, (callFunc F args).run Tryz.prog w = .ok (.enter F args) w)
  (hp : ∀ (s : ByteArray) (W : World), s.size ≤ 100000000 → Calls Tryz.prog F #[.string s] W fun e w' => e = .returned (.bool (pr s.data.toList)) ∧ Below W.heap.size W w') (hl : Short (x :: l)) (hv : SL w p c (x :: l)) :
  Calls Tryz.prog 59 #[.slice p (l.length + 1) c, .func (.func F) #[] #[]] w fun e w' => e = .returned (.int .i64 (((bl l).takeWhile pr).length + 1 : Nat)) ∧ Below w.heap.size w w' := by
 obtain ⟨b, o, rfl, hb, hc⟩ := hv.head
 have hcl := hv.1
 have hcm := hv.2.1
 have hq := twl_le pr (bl l)
 rw [bl_length] at hq
 have hin : ∀ n, n < l.length → ∃ s : ByteArray, l[n]? = some s ∧ s.size ≤ 100000000 ∧ w.cell? ⟨b, o + (n + 1), none⟩ = some (.string s) ∧ (bl l)[n]? = some s.data.toList := by
  intro n hn
  obtain ⟨s, hs⟩ : ∃ s, l[n]? = some s := ⟨_, List.getElem?_eq_getElem hn⟩
  refine ⟨s, hs, hl s (List.mem_cons_of_mem _ (List.mem_of_getElem? hs)), hc (n + 1) s (by simpa using hs), by simp [bl, hs]⟩
 have htp : ∀ n s, n < ((bl l).takeWhile pr).length → (bl l)[n]? = some s → pr s = true := by
  intro n s hn hs
  have h1 : (bl l) = (bl l).takeWhile pr ++ (bl l).dropWhile pr := (List.takeWhile_append_dropWhile).symm
  rw [h1, List.getElem?_append_left hn] at hs
  exact List.all_eq_true.1 (List.all_takeWhile (p := pr) (l := bl l)) s (List.mem_of_getElem? hs)
 have hts : ∀ s, (bl l)[((bl l).takeWhile pr).length]? = some s → pr s = false := by
  intro s hs
  have h3 : ((bl l).takeWhile pr ++ (bl l).dropWhile pr)[((bl l).takeWhile pr).length]? = some s := by rw [List.takeWhile_append_dropWhile]; exact hs
  rw [List.getElem?_append_right (Nat.le_refl _), Nat.sub_self] at h3
  have hs := h3
  have h2 := List.head?_dropWhile_not pr (bl l)
  rw [List.head?_eq_getElem?, hs] at h2
  simpa using h2
 obtain ⟨q, hqq⟩ : ∃ q, q = ((bl l).takeWhile pr).length := ⟨_, rfl⟩
 rw [← hqq] at hq htp hts ⊢
 obtain ⟨m, hm⟩ : ∃ m, m = l.length := ⟨_, rfl⟩
 rw [← hm] at hin hq ⊢
 rw [List.length_cons, ← hm] at hcl
 have HP := Lib.hid hp
 have HIN := Lib.hid hin
 have HTP := Lib.hid htp
 have HTS := Lib.hid hts
 clear hp hin htp hts hqq hm hl hv hc
 go_enter Tryz.func59, Tryz.ntmps59
 go_wp2_with fail
 go_loopg [5] (q + 1) (fun g s5 wr => ∃ n : Nat, s5 = .int .i64 (n + 1 : Nat) ∧ n ≤ q ∧ q < n + g ∧ Below w.heap.size w wr)
 case atStart => exact ⟨0, by go_num, by omega, by omega, Below.refl _ _⟩
 case round =>
  obtain ⟨n, rfl, hn, hg, hbw⟩ := hrel
  have hz := hbw.size
  have hbl : b < wr.heap.size := by omega
  by_cases hnm : n < m
  ·obtain ⟨s, hs1, hs2, hs3, hs4⟩ := HIN.out n hnm
   have g1 : decide (n < m) = true := decide_eq_true hnm
   have d1 := (hbw.cell (p := ⟨b, o + (n + 1), none⟩) hb).trans hs3
   have hC := HP.out s wr hs2
   by_cases hlt : n < q
   ·rw [HTP.out n _ hlt hs4] at hC
    have HC := Lib.hid hC
    have HB := Lib.hid hbw
    clear hC hs1 hs3 hs4 hbw
    go_wp2_with fail
    refine HC.out.mono ?_
    rintro e w1 ⟨rfl, hb1⟩
    have hb2 := below_then HB.out hb1
    go_wp2_with fail
    go_roundg (q - n)
    case measure => omega
    case rel => exact ⟨n + 1, by go_num, by omega, by omega, hb2⟩
   ·have hnq : n = q := by omega
    subst hnq
    rw [HTS.out _ hs4] at hC
    have HC := Lib.hid hC
    have HB := Lib.hid hbw
    clear hC hs1 hs3 hs4 hbw
    go_wp2_with fail
    refine HC.out.mono ?_
    rintro e w1 ⟨rfl, hb1⟩
    have hb2 := below_then HB.out hb1
    go_wp2_with fail
    go_ret
    exact ⟨rfl, hb2⟩
  ·have hnq : n = q := by omega
   subst hnq
   have g1 : decide (n < m) = false := decide_eq_false hnm
   go_wp2_with fail
   go_ret
   exact ⟨rfl, hbw⟩
end Go.Proofs.YthieinfonomeeaaGreatDoor
namespace Go.Proofs.YthieinfonomeeaaGreatDoor
open Go.RowKit Doc Tit Inl Blk
set_option linter.unusedVariables false
attribute [local go_sem ↓] Go.wp_at_zero Go.wp_at_succ
theorem star_set : (([42, 35] : List UInt8).contains ·) = star := by
 funext c
 simp only [List.contains_cons, List.contains_nil, Bool.or_false, star]
def itB (s : ByteArray) : Bt := (⟨(s.data.toList.takeWhile star).toArray⟩, ⟨(trimW ws4 (s.data.toList.dropWhile star)).toArray⟩)
def toIt (x : Bt) : It := ⟨x.1.data.toList, x.2.data.toList⟩
theorem toIt_itB (s : ByteArray) : toIt (itB s) = item s.data.toList := by simp [toIt, itB, item]
theorem take_twp {α : Type} (p : α → Bool) (l : List α) : l.take (l.takeWhile p).length = l.takeWhile p := by
 have h := List.take_left (l₁ := l.takeWhile p) (l₂ := l.dropWhile p)
 rwa [List.takeWhile_append_dropWhile] at h
theorem take_more {α β : Type} (F : α → β) {l : List α} {j : Nat} {x : α} (h : l[j]? = some x) : (l.take (j + 1)).map F = (l.take j).map F ++ [F x] := by
 rw [List.take_add_one, h]; simp
set_option maxRecDepth 10000 in
set_option maxHeartbeats 2000000 in
theorem pitems_any (l : List ByteArray) (p : Option Addr) (c : Nat) (w : World) (hl : Short l) (hn : l.length ≤ 1000000) (hv : SL w p c l) :
  Calls Tryz.prog 66 #[.slice p l.length c] w fun e w' => ∃ p' c', e = .returned (.slice p' l.length c') ∧ IL w' p' c' (l.map itB) ∧ Below w.heap.size w w' := by
 have hnc := hv.1
 have hin : ∀ j, j < l.length → ∃ s : ByteArray, l[j]? = some s ∧ s.size ≤ 100000000 ∧ ∃ b o, p = some ⟨b, o, none⟩ ∧ b < w.heap.size ∧ w.cell? ⟨b, o + j, none⟩ = some (.string s) := by
  intro j hj
  obtain ⟨s, hs⟩ : ∃ s, l[j]? = some s := ⟨_, List.getElem?_eq_getElem hj⟩
  rcases hv.2.2 with h | ⟨b, o, h1, h2, h3⟩
  ·rw [h] at hj; cases hj
  ·exact ⟨s, hs, hl s (List.mem_of_getElem? hs), b, o, h1, h2, h3 j s hs⟩
 obtain ⟨n, hnn⟩ : ∃ n, n = l.length := ⟨_, rfl⟩
 rw [← hnn] at hn hnc hin ⊢
 have HIN := Lib.hid hin
 have HNN := Lib.hid hnn
 clear hin hnn hl hv
 go_enter Tryz.func66, Tryz.ntmps66
 go_wp2_with fail
 go_loopg [3, 5, 6, 9] (n + 1) (fun g s3 _ _ s9 wr => ∃ j : Nat, s9 = .int .i64 j ∧ j ≤ n ∧ n < j + g ∧ Below w.heap.size w wr ∧ itS.own 127 (fun _ => False) w.heap.size wr s3 ((l.take j).map itB))
 case atStart => exact ⟨0, rfl, by omega, by omega, Below.refl _ _, by rw [List.take_zero]; exact Shp.own.nil⟩
 case round =>
  obtain ⟨j, rfl, hj, hg, hb, hown⟩ := hrel
  have HO := Lib.hid hown
  have HB := Lib.hid hb
  have hz := hb.size
  by_cases hjn : j < n
  ·obtain ⟨s, hs1, hs2, b, o, rfl, hbl, hs3⟩ := HIN.out j hjn
   have g1 : decide (j < n) = true := decide_eq_true hjn
   have d1 := (hb.cell (p := ⟨b, o + j, none⟩) hbl).trans hs3
   have hbw : b < wr.heap.size := by omega
   have hsz : s.data.toList.length = s.size := by simp
   have h1 := ptrimleft_set s [42, 35] wr (by omega) (by decide) (by decide)
   unfold Lib.trimLeftS at h1
   rw [star_set] at h1
   have htd := tw_dw star s.data.toList
   obtain ⟨R, hR⟩ : ∃ R : ByteArray, R = ⟨(s.data.toList.dropWhile star).toArray⟩ := ⟨_, rfl⟩
   have hRl : R.data.toList = s.data.toList.dropWhile star := by rw [hR]
   rw [← hR] at h1
   rw [← hRl, hsz] at htd
   have hRz : R.data.toList.length = R.size := by simp
   rw [hRz] at htd
   obtain ⟨k, hk⟩ : ∃ k, k = (s.data.toList.takeWhile star).length := ⟨_, rfl⟩
   rw [← hk] at htd
   have f1 : (s.size : Int) - (R.size : Int) = (k : Int) := by omega
   have hA : s.extract 0 k = (itB s).1 := by
    refine bytes_ext ?_
    rw [ByteArray.data_extract, Array.toList_extract]
    show (s.data.toList.drop 0).take (k - 0) = s.data.toList.takeWhile star
    rw [List.drop_zero, Nat.sub_zero, hk]
    exact take_twp star _
   have hT : (itB s).2 = ⟨(trimW ws4 R.data.toList).toArray⟩ := by rw [hRl]; rfl
   have h2 := fun W => pstrim_any R W (by omega)
   rw [← hT] at h2
   have hit : itB s = ((itB s).1, (itB s).2) := rfl
   obtain ⟨A, hAA⟩ : ∃ A, (itB s).1 = A := ⟨_, rfl⟩
   obtain ⟨T, hTT⟩ : ∃ T, (itB s).2 = T := ⟨_, rfl⟩
   rw [hAA] at hA hit
   rw [hTT] at h2 hit
   have H1 := Lib.hid h1
   have H2 := Lib.hid h2
   have HIT := Lib.hid hit
   have HS1 := Lib.hid hs1
   have hkz : k ≤ s.size := by omega
   clear h1 h2 hR hRl hT hAA hTT hit hs1 hs3 hown hk hsz hRz
   go_wp2_with fail
   refine H1.out.mono ?_
   rintro e w1 ⟨rfl, hb1⟩
   go_wp2_with fail
   have hOW : ∀ W, Below wr.heap.size wr W → itS.own 127 (fun _ => False) w.heap.size W u3 ((l.take j).map itB) := fun W hb => HO.out.below hb
   have hlen : itS.len ((l.take j).map itB) = j := by show ((l.take j).map itB).length = j; rw [List.length_map, List.length_take, ← HNN.out]; omega
   have HOW := Lib.hid hOW
   have HLEN := Lib.hid hlen
   have hwr : IntKind.i64.wrap ((s.size : Int) - (R.size : Int)) = (k : Int) := by rw [f1]; exact wrap_small _ (by omega) (by omega)
   have hk1 : (k : Int) ≤ (s.size : Int) := by omega
   have hk0 : (0 : Int) ≤ (k : Int) := by omega
   have hb2 := hb1.drew
   have hzz : w.heap.size ≤ wr.heap.size := hz
   clear hOW hlen hb1 f1
   go_region_held3 (fun W => True) (exact True.intro) (first
    | (go_at_call 95; (with_reducible refine (H2.out _).mono ?_); rintro e w2 ⟨rfl, hb3⟩; have hb4 := below_then hb2 hb3; have hzw := hb4.size)
    | (refine step_append_shp itS tyIt _ (by rfl) _ _ (by rfl) (HOW.out _ (below_then hb4 (below_new0 _ _))) (by rfl) src_it (by rfl) (by rw [HLEN.out]; show (j + 1) * 33 ≤ _; omega) (by rw [World.size_alloc]; omega) ?_; intro v' w3 O3 hgrow hbel hkd))
   go_wp2_with fail
   have hbn := hbel w (below_then HB.out (below_then hb4 (below_new0 _ _)))
   have htm := take_more itB HS1.out
   rw [HIT.out] at htm
   have HTM := Lib.hid htm
   clear htm hgrow hbel hkd hb2 hb4
   go_roundg (n - j)
   case measure => omega
   case rel => exact ⟨j + 1, by go_num, by omega, by omega, hbn, by rw [HTM.out]; exact O3⟩
  ·have hjn : j = n := by omega
   subst hjn
   have g1 : decide (j < j) = false := by simp
   obtain ⟨p', c', hv⟩ := hown.form
   have hlen : itS.len ((l.take j).map itB) = j := by show ((l.take j).map itB).length = j; rw [List.length_map, List.length_take, ← HNN.out]; omega
   rw [hlen] at hv
   subst hv
   have htk : l.take j = l := List.take_of_length_le (by rw [← HNN.out]; exact Nat.le_refl _)
   go_wp2_with fail
   go_ret
   refine ⟨p', c', rfl, ?_, HB.out⟩
   have h3 := HO.out.sl
   rw [htk] at h3
   have e : (l.map itB).length = j := by rw [List.length_map]; exact HNN.out.symm
   have h4 := IL.of_sl (p := p') (c := c') (l := l.map itB) (by rw [e]; exact h3)
   exact h4
end Go.Proofs.YthieinfonomeeaaGreatDoor
namespace Go.Proofs.YthieinfonomeeaaGreatDoor
open Go.RowKit Doc Tit Inl Blk
set_option linter.unusedVariables false
attribute [local go_sem ↓] Go.wp_at_zero Go.wp_at_succ
theorem byte_cmp {a b : ByteArray} {d : Nat} (ha : d < a.size) (hb : d < b.size) : (((a[d]'ha).toNat : Int) == ((b[d]'hb).toNat : Int)) = (a.data.toList[d]? == b.data.toList[d]?) := by
 have h1 : a.data.toList[d]? = some (a[d]'ha) := Lib.data_getElem? a d ha
 have h2 : b.data.toList[d]? = some (b[d]'hb) := Lib.data_getElem? b d hb
 rw [h1, h2, Bool.eq_iff_iff]
 simp only [beq_iff_eq, Option.some.injEq]
 constructor
 ·intro h
  exact UInt8.toNat_inj.1 (by omega)
 ·intro h; rw [h]
theorem byte_is {a : ByteArray} {d : Nat} (ha : d < a.size) (n : Nat) (hn : n < 256) : (((a[d]'ha).toNat : Int) == (n : Int)) = decide (a.data.toList[d]? = some (UInt8.ofNat n)) := by
 have h1 : a.data.toList[d]? = some (a[d]'ha) := Lib.data_getElem? a d ha
 rw [h1, u8_num _ n hn, Bool.eq_iff_iff]
 simp
def ShortI (l : List Bt) : Prop := ∀ x ∈ l, x.1.size ≤ 100000000 ∧ x.2.size ≤ 100000000
theorem ShortI.take {l : List Bt} (h : ShortI l) (n : Nat) : ShortI (l.take n) := fun y hy => h y (List.mem_of_mem_take hy)
theorem ShortI.drop {l : List Bt} (h : ShortI l) (n : Nat) : ShortI (l.drop n) := fun y hy => h y (List.mem_of_mem_drop hy)
def ListsR (N : Nat) : Prop := ∀ (d : Nat) (l : List Bt) (p : Option Addr) (c : Nat) (w : World), 2 * sumD d (l.map toIt) ≤ N → Deep d (l.map toIt) → ShortI l → l.length ≤ 1000000 → MX w → IL w p c l →
 Calls Tryz.prog 65 #[.slice p l.length c, .int .i64 d] w fun e w' => ∃ p' c', e = .returned (.slice p' (LI d (l.map toIt)).len c') ∧ blsS.sl (fun k => w.heap.size ≤ k) w' (.slice p' (LI d (l.map toIt)).len c') (LI d (l.map toIt)) ∧ Below w.heap.size w w'
def EntriesR (N : Nat) : Prop := ∀ (d : Nat) (l : List Bt) (p : Option Addr) (c : Nat) (w : World), l ≠ [] → 2 * sumD d (l.map toIt) ≤ N → Deep d (l.map toIt) → ShortI l → l.length ≤ 1000000 → MX w → IL w p c l →
 Calls Tryz.prog 101 #[.slice p l.length c, .int .i64 d] w fun e w' => ∃ p' c', e = .returned (.slice p' (IT d (l.map toIt)).len c') ∧ blsS.sl (fun k => w.heap.size ≤ k) w' (.slice p' (IT d (l.map toIt)).len c') (IT d (l.map toIt)) ∧ Below w.heap.size w w'
theorem run_facts {d : Nat} {x : Bt} {r : List Bt} (hd : Deep d ((x :: r).map toIt)) :
  ∃ q, q = Blk.runN d (toIt x).pre[d]? (r.map toIt) ∧ q ≤ r.length ∧ (∀ i y, i < q → r[i]? = some y → (y.1.data.toList[d]? == x.1.data.toList[d]?) = true) ∧ (∀ y, r[q]? = some y → (y.1.data.toList[d]? == x.1.data.toList[d]?) = false) := by
 refine ⟨_, rfl, by have := runN_le d (toIt x).pre[d]? (r.map toIt); rwa [List.length_map] at this, ?_, ?_⟩
 ·intro i y hi hy
  unfold Blk.runN at hi
  have h1 : ((r.map toIt).takeWhile fun y => y.pre[d]? == (toIt x).pre[d]?)[i]? = some (toIt y) := by
   have h2 : (r.map toIt) = ((r.map toIt).takeWhile fun y => y.pre[d]? == (toIt x).pre[d]?) ++ ((r.map toIt).dropWhile fun y => y.pre[d]? == (toIt x).pre[d]?) := (List.takeWhile_append_dropWhile).symm
   have h3 : (r.map toIt)[i]? = some (toIt y) := by rw [List.getElem?_map, hy]; rfl
   rw [h2, List.getElem?_append_left hi] at h3
   exact h3
  exact List.all_eq_true.1 (List.all_takeWhile (p := fun y : It => y.pre[d]? == (toIt x).pre[d]?) (l := r.map toIt)) _ (List.mem_of_getElem? h1)
 ·intro y hy
  unfold Blk.runN at hy
  have h3 : (((r.map toIt).takeWhile fun y => y.pre[d]? == (toIt x).pre[d]?) ++ ((r.map toIt).dropWhile fun y => y.pre[d]? == (toIt x).pre[d]?))[((r.map toIt).takeWhile fun y => y.pre[d]? == (toIt x).pre[d]?).length]? = some (toIt y) := by
   rw [List.takeWhile_append_dropWhile, List.getElem?_map, hy]; rfl
  rw [List.getElem?_append_right (Nat.le_refl _), Nat.sub_self] at h3
  have h4 := List.head?_dropWhile_not (fun y : It => y.pre[d]? == (toIt x).pre[d]?) (r.map toIt)
  rw [List.head?_eq_getElem?, h3] at h4
  have h5 : ((toIt y).pre[d]? == (toIt x).pre[d]?) = false := by simpa using h4
  exact h5
set_option maxRecDepth 20000 in
set_option maxHeartbeats 4000000 in
theorem plists_step (N : Nat) (ih : EntriesR N) : ListsR N := by
 intro d l p c w hN hd hs hll hm hv
 have HM := Lib.hid hm
 go_enter Tryz.func65, Tryz.ntmps65
 go_wp2_with fail
 go_loopg [0, 5, 6, 7, 8] (l.length + 1) (fun g s0 s5 _ _ _ wr => ∃ (R : List Bt) (p : Option Addr) (c : Nat) (D : Bls), s0 = .slice p R.length c ∧ IL w p c R ∧ R.length < g ∧ D.app (LI d (R.map toIt)) = LI d (l.map toIt) ∧ D.len + R.length ≤ l.length ∧
  2 * sumD d (R.map toIt) ≤ N ∧ Deep d (R.map toIt) ∧ ShortI R ∧ Below w.heap.size w wr ∧ blsS.own 44 (fun _ => False) w.heap.size wr s5 D)
 case atStart => exact ⟨l, p, c, .nil, rfl, hv, Nat.lt_succ_self _, rfl, by simp [Bls.len], hN, hd, hs, Below.refl _ _, Shp.own.nil⟩
 case round =>
  obtain ⟨R, p, c, D, rfl, hvR, hg, hD, hDl, hNR, hdR, hsR, hb, hown⟩ := hrel
  cases R with
  | nil =>
    obtain ⟨p', c', hvv⟩ := hown.form
    have hDD : D = LI d (l.map toIt) := by rw [← hD, List.map_nil, LI_nil, Bls.app_nil]
    have h3 := hown.sl
    rw [hvv] at h3
    subst hvv
    clear hown hD
    go_wp2_with fail
    go_ret
    subst hDD
    exact ⟨p', c', rfl, blsS.sl_on h3 (Kept.mono fun k hk _ => by rcases hk with h | h; exact h.elim; exact h), hb⟩
  | cons x r =>
    obtain ⟨b, o, rfl, hblw, hcw⟩ := hvR.head
    have HVR0 := Lib.hid hvR
    have HC0 := Lib.hid hcw
    have hbl : b < wr.heap.size := Nat.lt_of_lt_of_le hblw hb.size
    have hc : ∀ j (y : Bt), (x :: r)[j]? = some y → wr.cell? ⟨b, o + j * 2, none⟩ = some (.string y.1) ∧ wr.cell? ⟨b, o + j * 2 + 1, none⟩ = some (.string y.2) := fun j y hj => ⟨(hb.cell (p := ⟨b, o + j * 2, none⟩) hblw).trans (hcw j y hj).1, (hb.cell (p := ⟨b, o + j * 2 + 1, none⟩) hblw).trans (hcw j y hj).2⟩
    have hvR := hvR.below hb
    clear hcw
    obtain ⟨q, hq, hql, hq1, hq2⟩ := run_facts hdR
    have hcl := hvR.1
    rw [List.length_cons] at hcl
    have hxd : d < x.1.size := by
     have := hdR (toIt x) (by simp)
     simpa [toIt] using this
    have hxs := (hsR x List.mem_cons_self).1
    have hc0 := (hc 0 x rfl).1
    rw [Nat.zero_mul, Nat.add_zero] at hc0
    have hyd : ∀ i y, r[i]? = some y → ∃ h : d < y.1.size, wr.cell? ⟨b, o + (i + 1) * 2, none⟩ = some (.string y.1) := fun i y hy => by
     have h1 := hdR (toIt y) (by rw [List.map_cons]; exact List.mem_cons_of_mem _ (List.mem_map.2 ⟨y, List.mem_of_getElem? hy, rfl⟩))
     exact ⟨by simpa [toIt] using h1, (hc (i + 1) y (by simpa using hy)).1⟩
    obtain ⟨m, hmm⟩ : ∃ m, m = r.length := ⟨_, rfl⟩
    have hin : ∀ i, i < m → ∃ y, r[i]? = some y := fun i hi => ⟨_, List.getElem?_eq_getElem (by omega)⟩
    rw [List.length_cons] at hDl hg ⊢
    rw [← hmm] at hcl hDl hg hql ⊢
    obtain ⟨z, hz⟩ : ∃ z : UInt8, x.1[d]'hxd = z := ⟨_, rfl⟩
    have hzc : ∀ (i : Nat) (y : Bt) (h : r[i]? = some y) (hy : d < y.1.size), (((y.1[d]'hy).toNat : Int) == (z.toNat : Int)) = (y.1.data.toList[d]? == x.1.data.toList[d]?) := fun i y h hy => by rw [← hz]; exact byte_cmp hy hxd
    have hz35 : ((z.toNat : Int) == 35) = decide (x.1.data.toList[d]? = some 35) := by rw [← hz]; exact byte_is hxd 35 (by decide)
    have HVR := Lib.hid hvR
    have HC := Lib.hid hc
    have HD := Lib.hid hD
    have HNR := Lib.hid hNR
    have HDR := Lib.hid hdR
    have HSR := Lib.hid hsR
    have HB := Lib.hid hb
    have HO := Lib.hid hown
    have HQ := Lib.hid hq
    have HQ1 := Lib.hid hq1
    have HQ2 := Lib.hid hq2
    have HYD := Lib.hid hyd
    have HIN := Lib.hid hin
    have HZC := Lib.hid hzc
    have HMM := Lib.hid hmm
    have HZ35 := Lib.hid hz35
    have hdb : d ≤ 100000000 := by omega
    clear hvR hc hD hNR hdR hsR hb hown hq hq1 hq2 hyd hin hzc hmm hz35 hd hs hv hN
    obtain ⟨wo, hwo⟩ : ∃ wo, wo = wr := ⟨_, rfl⟩
    subst hwo
    go_wp2_with fail
    go_loopg [7] (q + 1) (fun g s7 wi => ∃ i : Nat, s7 = .int .i64 ((i : Int) + 1) ∧ i ≤ q ∧ q < i + g ∧ wi = wo)
    case atStart => exact ⟨0, by go_num, by omega, by omega, rfl⟩
    case round =>
     obtain ⟨i, rfl, hi, hgi, hwi⟩ := hrel
     subst hwi
     obtain ⟨t, ht⟩ : ∃ t : Bool, decide (i < q) = t := ⟨_, rfl⟩
     go_upto_region 5 with fail
     go_cut [32] from 18 to 32 (fun s32 wc => s32 = .bool t ∧ wr = wc)
     case first =>
      by_cases him : i < m
      ·have g1 : decide ((i : Int) + 1 < (m : Int) + 1) = true := decide_eq_true (by omega)
       have g2 : decide (i < m) = true := decide_eq_true him
       have g3 : decide (i + 1 < m + 1) = true := decide_eq_true (by omega)
       obtain ⟨y, hy⟩ := HIN.out i him
       obtain ⟨hyd, hyc⟩ := HYD.out i y hy
       have hcmp := HZC.out i y hy hyd
       have hcmp2 : (((y.1[d]'hyd).toNat : Int) == (z.toNat : Int)) = t := by
        rw [hcmp, ← ht]
        by_cases hiq : i < q
        ·rw [HQ1.out i y hiq hy, decide_eq_true hiq]
        ·obtain rfl : i = q := by omega
         rw [HQ2.out y hy, decide_eq_false hiq]
       clear hcmp hy ht
       go_wp2_with fail
       go_meet
       case rel => exact ⟨rfl, rfl⟩
      ·have g1 : decide ((i : Int) + 1 < (m : Int) + 1) = false := decide_eq_false (by omega)
       have g2 : decide (i < m) = false := decide_eq_false him
       have g3 : decide (i + 1 < m + 1) = false := decide_eq_false (by omega)
       have ht2 : t = false := by rw [← ht]; exact decide_eq_false (by omega)
       subst ht2
       clear ht
       go_wp2_with fail
       go_meet
       case rel => exact ⟨rfl, rfl⟩
     case rest =>
      obtain ⟨rfl, rfl⟩ := hcut
      cases t with
      | true =>
        have hiq : i < q := of_decide_eq_true ht
        clear ht
        go_wp2_with fail
        go_roundg (q - i)
        case measure => omega
        case rel => exact ⟨i + 1, by go_num, by omega, by omega, rfl⟩
      | false =>
        have hiq : i = q := by have := of_decide_eq_false ht; omega
        subst hiq
        clear ht
        have hlen : (((x :: r).take (i + 1)).length) = i + 1 := by rw [List.length_take, List.length_cons, ← HMM.out]; omega
        have hsp := sumD_split d (i + 1) ((x :: r).map toIt)
        have hmt : ((x :: r).take (i + 1)).map toIt = ((x :: r).map toIt).take (i + 1) := List.map_take
        have hmd : ((x :: r).drop (i + 1)).map toIt = ((x :: r).map toIt).drop (i + 1) := List.map_drop
        have hC := ih d ((x :: r).take (i + 1)) (some ⟨b, o, none⟩) c wr (by rw [List.take_succ_cons]; exact List.cons_ne_nil _ _) (by rw [hmt]; have := HNR.out; omega) (by rw [hmt]; exact HDR.out.take _) (HSR.out.take _) (by rw [hlen]; omega) (HM.out.below HB.out) (HVR.out.take _ (by rw [List.length_cons, ← HMM.out]; omega))
        rw [hlen] at hC
        have hli := LI_cons HDR.out
        rw [← HQ.out] at hli
        have hdd := HD.out
        have hli2 : LI d ((x :: r).map toIt) = (blk 3 (if x.1.data.toList[d]? = some 35 then 1 else 0) [] .nil (IT d (((x :: r).map toIt).take (i + 1)))).app (LI d (((x :: r).map toIt).drop (i + 1))) := hli
        rw [hli2, ← hmd, ← hmt] at hdd
        have HDD := Lib.hid hdd
        have hNd : 2 * sumD d (((x :: r).drop (i + 1)).map toIt) ≤ N := by rw [hmd]; have := HNR.out; omega
        have hDd : Deep d (((x :: r).drop (i + 1)).map toIt) := by rw [hmd]; exact HDR.out.drop _
        have hSd := HSR.out.drop (i + 1)
        have hld : ((x :: r).drop (i + 1)).length = m - i := by rw [List.length_drop, List.length_cons, ← HMM.out]; omega
        generalize hTK : ((x :: r).take (i + 1)).map toIt = TK at *
        generalize hK : IT d TK = K at *
        generalize hDR : (x :: r).drop (i + 1) = DR at *
        have HTKD := Lib.hid (And.intro hNd (And.intro hDd (And.intro hSd hld)))
        have HDRq := Lib.hid hDR
        have hC2 := Lib.hid hC
        clear hC hlen hsp hmt hmd hli hli2 hdd hNd hDd hSd hld hK hDR hTK
        have hzw := HB.out.size
        have hcmx := HVR.out.2.1
        by_cases h35 : x.1.data.toList[d]? = some 35
        ·have g35 : ((z.toNat : Int) == 35) = true := by rw [HZ35.out]; exact decide_eq_true h35
         have hdd := HDD.out
         rw [if_pos h35] at hdd
         have hdd2 : (D.app (.cons 3 1 ⟨#[]⟩ .nil K .nil)).app (LI d (DR.map toIt)) = LI d (l.map toIt) := by rw [Bls.app_assoc]; exact hdd
         have HDD2 := Lib.hid hdd2
         clear hdd hdd2 h35
         go_wp2_with fail
         refine hC2.out.mono ?_
         rintro e w2 ⟨kp, kc, rfl, hks, hb2⟩
         have hok := blk_ready (a := 3) (l := 1) (t := ⟨#[]⟩) (iv := .slice none 0 0) (kv := .slice kp K.len kc) (i := .nil) (k := K) HO.out hzw (below_then hb2 (below_new0 w2 (.cells #[.int .i64 3, .int .i64 1, .string ⟨#[]⟩, .slice none 0 0, .slice kp K.len kc] 44))) Sl.empty (blsS.sl_on hks (Kept.below (below_new0 w2 _)))
         simp only [World.size_alloc] at hok
         have HOK := Lib.hid hok
         clear hok hks hb2 hC2
         by_cases hcq : c = i + 1
         ·go_wp2_with (at_builtin; go_must (refine append_shp blsS tyB _ rfl _ _ rfl HOK.out.1 rfl HOK.out.2.1 rfl (by show (D.len + 1) * 81 ≤ _; omega) (by simp only [World.size_alloc]; exact HOK.out.2.2.1) ?_); intro v' w5 hown' hgrow hbel hkd)
          have hbn := hbel w (below_then HB.out HOK.out.2.2.2)
          have hrel' : ∃ (R : List Bt) (p : Option Addr) (cc : Nat) (D' : Bls), Value.slice (some ⟨b, o, none⟩) (m - i) 0 = .slice p R.length cc ∧ IL w p cc R ∧ R.length < (m - i) + 1 ∧ D'.app (LI d (R.map toIt)) = LI d (l.map toIt) ∧ D'.len + R.length ≤ l.length ∧ 2 * sumD d (R.map toIt) ≤ N ∧ Deep d (R.map toIt) ∧ ShortI R ∧ Below w.heap.size w w5 ∧ blsS.own 44 (fun _ => False) w.heap.size w5 v' D' := by
           obtain ⟨h1, h2, h3, h4⟩ := HTKD.out
           have hmi : m = i := by omega
           have hDR0 : DR = [] := List.length_eq_zero_iff.1 (by omega)
           refine ⟨DR, some ⟨b, o, none⟩, 0, D.app (.cons 3 1 ⟨#[]⟩ .nil K .nil), by rw [h4], by rw [hDR0]; exact IL.nothing (by omega), by omega, HDD2.out, by rw [Bls.len_app]; show D.len + 1 + DR.length ≤ _; omega, h1, h2, h3, hbn, hown'⟩
          have HREL := Lib.hid hrel'
          clear hrel' hown' hgrow hbel hkd hbn
          go_roundg ((m - i) + 1)
          case measure => omega
          case rel => exact HREL.out
         ·go_wp2_with (at_builtin; go_must (refine append_shp blsS tyB _ rfl _ _ rfl HOK.out.1 rfl HOK.out.2.1 rfl (by show (D.len + 1) * 81 ≤ _; omega) (by simp only [World.size_alloc]; exact HOK.out.2.2.1) ?_); intro v' w5 hown' hgrow hbel hkd)
          have hbn := hbel w (below_then HB.out HOK.out.2.2.2)
          have hrel' : ∃ (R : List Bt) (p : Option Addr) (cc : Nat) (D' : Bls), Value.slice (some ⟨b, o + (i + 1) * 2, none⟩) (m - i) (c - (i + 1)) = .slice p R.length cc ∧ IL w p cc R ∧ R.length < (m - i) + 1 ∧ D'.app (LI d (R.map toIt)) = LI d (l.map toIt) ∧ D'.len + R.length ≤ l.length ∧ 2 * sumD d (R.map toIt) ≤ N ∧ Deep d (R.map toIt) ∧ ShortI R ∧ Below w.heap.size w w5 ∧ blsS.own 44 (fun _ => False) w.heap.size w5 v' D' := by
           obtain ⟨h1, h2, h3, h4⟩ := HTKD.out
           refine ⟨DR, some ⟨b, o + (i + 1) * 2, none⟩, c - (i + 1), D.app (.cons 3 1 ⟨#[]⟩ .nil K .nil), by rw [h4], ?_, by omega, HDD2.out, by rw [Bls.len_app]; show D.len + 1 + DR.length ≤ _; omega, h1, h2, h3, hbn, hown'⟩
           rw [← HDRq.out]
           exact HVR0.out.drop hblw HC0.out (i + 1) (by rw [List.length_cons, ← HMM.out]; omega)
          have HREL := Lib.hid hrel'
          clear hrel' hown' hgrow hbel hkd hbn
          go_roundg ((m - i) + 1)
          case measure => omega
          case rel => exact HREL.out
        ·have g35 : ((z.toNat : Int) == 35) = false := by rw [HZ35.out]; exact decide_eq_false h35
         have hdd := HDD.out
         rw [if_neg h35] at hdd
         have hdd2 : (D.app (.cons 3 0 ⟨#[]⟩ .nil K .nil)).app (LI d (DR.map toIt)) = LI d (l.map toIt) := by rw [Bls.app_assoc]; exact hdd
         have HDD2 := Lib.hid hdd2
         clear hdd hdd2 h35
         go_wp2_with fail
         refine hC2.out.mono ?_
         rintro e w2 ⟨kp, kc, rfl, hks, hb2⟩
         have hok := blk_ready (a := 3) (l := 0) (t := ⟨#[]⟩) (iv := .slice none 0 0) (kv := .slice kp K.len kc) (i := .nil) (k := K) HO.out hzw (below_then hb2 (below_new0 w2 (.cells #[.int .i64 3, .int .i64 0, .string ⟨#[]⟩, .slice none 0 0, .slice kp K.len kc] 44))) Sl.empty (blsS.sl_on hks (Kept.below (below_new0 w2 _)))
         simp only [World.size_alloc] at hok
         have HOK := Lib.hid hok
         clear hok hks hb2 hC2
         by_cases hcq : c = i + 1
         ·go_wp2_with (at_builtin; go_must (refine append_shp blsS tyB _ rfl _ _ rfl HOK.out.1 rfl HOK.out.2.1 rfl (by show (D.len + 1) * 81 ≤ _; omega) (by simp only [World.size_alloc]; exact HOK.out.2.2.1) ?_); intro v' w5 hown' hgrow hbel hkd)
          have hbn := hbel w (below_then HB.out HOK.out.2.2.2)
          have hrel' : ∃ (R : List Bt) (p : Option Addr) (cc : Nat) (D' : Bls), Value.slice (some ⟨b, o, none⟩) (m - i) 0 = .slice p R.length cc ∧ IL w p cc R ∧ R.length < (m - i) + 1 ∧ D'.app (LI d (R.map toIt)) = LI d (l.map toIt) ∧ D'.len + R.length ≤ l.length ∧ 2 * sumD d (R.map toIt) ≤ N ∧ Deep d (R.map toIt) ∧ ShortI R ∧ Below w.heap.size w w5 ∧ blsS.own 44 (fun _ => False) w.heap.size w5 v' D' := by
           obtain ⟨h1, h2, h3, h4⟩ := HTKD.out
           have hmi : m = i := by omega
           have hDR0 : DR = [] := List.length_eq_zero_iff.1 (by omega)
           refine ⟨DR, some ⟨b, o, none⟩, 0, D.app (.cons 3 0 ⟨#[]⟩ .nil K .nil), by rw [h4], by rw [hDR0]; exact IL.nothing (by omega), by omega, HDD2.out, by rw [Bls.len_app]; show D.len + 1 + DR.length ≤ _; omega, h1, h2, h3, hbn, hown'⟩
          have HREL := Lib.hid hrel'
          clear hrel' hown' hgrow hbel hkd hbn
          go_roundg ((m - i) + 1)
          case measure => omega
          case rel => exact HREL.out
         ·go_wp2_with (at_builtin; go_must (refine append_shp blsS tyB _ rfl _ _ rfl HOK.out.1 rfl HOK.out.2.1 rfl (by show (D.len + 1) * 81 ≤ _; omega) (by simp only [World.size_alloc]; exact HOK.out.2.2.1) ?_); intro v' w5 hown' hgrow hbel hkd)
          have hbn := hbel w (below_then HB.out HOK.out.2.2.2)
          have hrel' : ∃ (R : List Bt) (p : Option Addr) (cc : Nat) (D' : Bls), Value.slice (some ⟨b, o + (i + 1) * 2, none⟩) (m - i) (c - (i + 1)) = .slice p R.length cc ∧ IL w p cc R ∧ R.length < (m - i) + 1 ∧ D'.app (LI d (R.map toIt)) = LI d (l.map toIt) ∧ D'.len + R.length ≤ l.length ∧ 2 * sumD d (R.map toIt) ≤ N ∧ Deep d (R.map toIt) ∧ ShortI R ∧ Below w.heap.size w w5 ∧ blsS.own 44 (fun _ => False) w.heap.size w5 v' D' := by
           obtain ⟨h1, h2, h3, h4⟩ := HTKD.out
           refine ⟨DR, some ⟨b, o + (i + 1) * 2, none⟩, c - (i + 1), D.app (.cons 3 0 ⟨#[]⟩ .nil K .nil), by rw [h4], ?_, by omega, HDD2.out, by rw [Bls.len_app]; show D.len + 1 + DR.length ≤ _; omega, h1, h2, h3, hbn, hown'⟩
           rw [← HDRq.out]
           exact HVR0.out.drop hblw HC0.out (i + 1) (by rw [List.length_cons, ← HMM.out]; omega)
          have HREL := Lib.hid hrel'
          clear hrel' hown' hgrow hbel hkd hbn
          go_roundg ((m - i) + 1)
          case measure => omega
          case rel => exact HREL.out
end Go.Proofs.YthieinfonomeeaaGreatDoor
namespace Go.Proofs.YthieinfonomeeaaGreatDoor
open Go.RowKit Doc Tit Inl Blk
set_option linter.unusedVariables false
attribute [local go_sem ↓] Go.wp_at_zero Go.wp_at_succ
def own1 (d : Nat) (x : It) : Nat := if x.pre.length = d + 1 then 1 else 0
def ownT (d : Nat) (x : It) : Ins := if x.pre.length = d + 1 then read x.txt else .nil
theorem IT_step {d : Nat} {x : It} {r : List It} (hd : Deep d (x :: r)) :
  IT d (x :: r) = (blk 4 0 [] (ownT d x) (LI (d + 1) (((x :: r).drop (own1 d x)).take (deepN d ((x :: r).drop (own1 d x)))))).app (IT d ((x :: r).drop (own1 d x + deepN d ((x :: r).drop (own1 d x))))) := by
 unfold own1 ownT
 by_cases hx : x.pre.length = d + 1
 ·rw [if_pos hx, if_pos hx, IT_head hd hx]
  show _ = (blk 4 0 [] _ (LI (d + 1) (r.take (deepN d r)))).app (IT d ((x :: r).drop (1 + deepN d r)))
  rw [Nat.add_comm 1]; rfl
 ·rw [if_neg hx, if_neg hx, IT_deep hd hx]
  show _ = (blk 4 0 [] _ (LI (d + 1) ((x :: r).take (deepN d (x :: r))))).app (IT d ((x :: r).drop (0 + deepN d (x :: r))))
  rw [Nat.zero_add]
theorem deep_facts (d : Nat) (Y : List Bt) :
  ∃ q, q = deepN d (Y.map toIt) ∧ q ≤ Y.length ∧ (∀ i y, i < q → Y[i]? = some y → d + 1 < y.1.data.toList.length) ∧ (∀ y, Y[q]? = some y → ¬ d + 1 < y.1.data.toList.length) := by
 refine ⟨_, rfl, by have := deepN_le d (Y.map toIt); rwa [List.length_map] at this, ?_, ?_⟩
 ·intro i y hi hy
  unfold deepN at hi
  have h1 : ((Y.map toIt).takeWhile fun y => decide (d + 1 < y.pre.length))[i]? = some (toIt y) := by
   have h2 : (Y.map toIt) = ((Y.map toIt).takeWhile fun y => decide (d + 1 < y.pre.length)) ++ ((Y.map toIt).dropWhile fun y => decide (d + 1 < y.pre.length)) := (List.takeWhile_append_dropWhile).symm
   have h3 : (Y.map toIt)[i]? = some (toIt y) := by rw [List.getElem?_map, hy]; rfl
   rw [h2, List.getElem?_append_left hi] at h3
   exact h3
  have h4 := List.all_eq_true.1 (List.all_takeWhile (p := fun y : It => decide (d + 1 < y.pre.length)) (l := Y.map toIt)) _ (List.mem_of_getElem? h1)
  exact of_decide_eq_true h4
 ·intro y hy
  unfold deepN at hy
  have h3 : (((Y.map toIt).takeWhile fun y => decide (d + 1 < y.pre.length)) ++ ((Y.map toIt).dropWhile fun y => decide (d + 1 < y.pre.length)))[((Y.map toIt).takeWhile fun y => decide (d + 1 < y.pre.length)).length]? = some (toIt y) := by
   rw [List.takeWhile_append_dropWhile, List.getElem?_map, hy]; rfl
  rw [List.getElem?_append_right (Nat.le_refl _), Nat.sub_self] at h3
  have h4 := List.head?_dropWhile_not (fun y : It => decide (d + 1 < y.pre.length)) (Y.map toIt)
  rw [List.head?_eq_getElem?, h3] at h4
  have h5 : decide (d + 1 < (toIt y).pre.length) = false := by simpa using h4
  exact of_decide_eq_false h5
theorem map_drop_it (l : List Bt) (n : Nat) : (l.drop n).map toIt = (l.map toIt).drop n := List.map_drop
theorem map_take_it (l : List Bt) (n : Nat) : (l.take n).map toIt = (l.map toIt).take n := List.map_take
set_option maxRecDepth 20000 in
set_option maxHeartbeats 4000000 in
theorem pentries_step (N : Nat) (ih : ListsR N) : EntriesR (N + 1) := by
 intro d l p c w _ hN hd hs hll hm hv
 have HM := Lib.hid hm
 go_enter Tryz.func101, Tryz.ntmps101
 go_wp2_with fail
 go_loopg [0, 5, 6, 7, 8] (l.length + 1) (fun g s0 s5 _ _ _ wr => ∃ (R : List Bt) (p : Option Addr) (c : Nat) (D : Bls), s0 = .slice p R.length c ∧ IL w p c R ∧ R.length < g ∧ D.app (IT d (R.map toIt)) = IT d (l.map toIt) ∧ D.len + R.length ≤ l.length ∧
  2 * sumD d (R.map toIt) ≤ N + 1 ∧ Deep d (R.map toIt) ∧ ShortI R ∧ Below w.heap.size w wr ∧ blsS.own 44 (fun _ => False) w.heap.size wr s5 D)
 case atStart => exact ⟨l, p, c, .nil, rfl, hv, Nat.lt_succ_self _, rfl, by simp [Bls.len], hN, hd, hs, Below.refl _ _, Shp.own.nil⟩
 case round =>
  obtain ⟨R, p, c, D, rfl, hvR, hg, hD, hDl, hNR, hdR, hsR, hb, hown⟩ := hrel
  cases R with
  | nil =>
    obtain ⟨p', c', hvv⟩ := hown.form
    have hDD : D = IT d (l.map toIt) := by rw [← hD, List.map_nil, IT_nil, Bls.app_nil]
    have h3 := hown.sl
    rw [hvv] at h3
    subst hvv
    clear hown hD
    go_wp2_with fail
    go_ret
    subst hDD
    exact ⟨p', c', rfl, blsS.sl_on h3 (Kept.mono fun k hk _ => by rcases hk with h | h; exact h.elim; exact h), hb⟩
  | cons x r =>
    obtain ⟨b, o, rfl, hblw, hcw⟩ := hvR.head
    have HVR := Lib.hid hvR
    have HC := Lib.hid hcw
    have hcl := hvR.1
    rw [List.length_cons] at hcl
    have hxd : d < x.1.size := by
     have := hdR (toIt x) (by simp)
     simpa [toIt] using this
    have hxs := hsR x List.mem_cons_self
    have hxl : x.1.data.toList.length = x.1.size := by simp
    have hst := IT_step (x := toIt x) (r := r.map toIt) hdR
    obtain ⟨F, hF⟩ : ∃ F, F = own1 d (toIt x) := ⟨_, rfl⟩
    obtain ⟨I, hI⟩ : ∃ I, I = ownT d (toIt x) := ⟨_, rfl⟩
    have hst2 : IT d ((x :: r).map toIt) = (blk 4 0 [] I (LI (d + 1) (((x :: r).drop F).map toIt |>.take (deepN d (((x :: r).drop F).map toIt))))).app (IT d (((x :: r).map toIt).drop (F + deepN d (((x :: r).drop F).map toIt)))) := by
     rw [hF, hI, map_drop_it]; exact hst
    have hF1 : (x.1.size = d + 1 → F = 1 ∧ I = read x.2.data.toList) ∧ (¬ x.1.size = d + 1 → F = 0 ∧ I = .nil) := by
     rw [hF, hI]
     unfold own1 ownT
     rw [show (toIt x).pre.length = x.1.size from hxl]
     exact ⟨fun h => by rw [if_pos h, if_pos h]; exact ⟨rfl, rfl⟩, fun h => by rw [if_neg h, if_neg h]; exact ⟨rfl, rfl⟩⟩
    obtain ⟨q, hq, hql, hq1, hq2⟩ := deep_facts d ((x :: r).drop F)
    rw [← hq] at hst2
    obtain ⟨m, hmm⟩ : ∃ m, m = r.length := ⟨_, rfl⟩
    have hFle : F ≤ 1 := by rcases Nat.decEq x.1.size (d + 1) with h | h; have := (hF1.2 h).1; omega; have := (hF1.1 h).1; omega
    rw [List.length_drop, List.length_cons, ← hmm] at hql
    have hFq : 1 ≤ F + q := by
     rcases Nat.decEq x.1.size (d + 1) with h | h
     ·have hF0 := (hF1.2 h).1
      rw [hF0, List.drop_zero, List.map_cons] at hq
      have := deepN_pos (d := d) (x := toIt x) (r := r.map toIt) (by show d + 1 < x.1.data.toList.length; omega)
      omega
     ·have := (hF1.1 h).1; omega
    rw [List.length_cons] at hDl hg ⊢
    rw [← hmm] at hcl hDl hg ⊢
    have hin : ∀ i, F + i < m + 1 → ∃ y : Bt, ((x :: r).drop F)[i]? = some y ∧ (x :: r)[F + i]? = some y := fun i hi => by
     have h1 : F + i < (x :: r).length := by rw [List.length_cons, ← hmm]; exact hi
     refine ⟨(x :: r)[F + i], ?_, List.getElem?_eq_getElem h1⟩
     rw [List.getElem?_drop]; exact List.getElem?_eq_getElem h1
    have hlist : ∀ W, Below w.heap.size w W → MX W := fun W hb => HM.out.below hb
    have hdb : d ≤ 100000000 := by omega
    have hc0 := (hcw 0 x rfl)
    rw [Nat.zero_mul, Nat.add_zero] at hc0
    have HD := Lib.hid hD
    have HNR := Lib.hid hNR
    have HDR := Lib.hid hdR
    have HSR := Lib.hid hsR
    have HB := Lib.hid hb
    have HO := Lib.hid hown
    have HQ := Lib.hid hq
    have HQ1 := Lib.hid hq1
    have HQ2 := Lib.hid hq2
    have HIN := Lib.hid hin
    have HMM := Lib.hid hmm
    have HST := Lib.hid hst2
    have HFI := Lib.hid hF1
    have d0 := (hb.cell (p := ⟨b, o, none⟩) hblw).trans hc0.1
    have HC0 := Lib.hid hc0.2
    have hzw := hb.size
    have hbl : b < wr.heap.size := by omega
    clear hvR hD hNR hdR hsR hb hown hq hq1 hq2 hin hmm hd hs hv hN hcw hst hst2 hF hI hF1 hc0 hlist hxl
    obtain ⟨wo, hwo⟩ : ∃ wo, wo = wr := ⟨_, rfl⟩
    subst hwo
    obtain ⟨bx, hbx⟩ : ∃ bx, ((x.1.size : Int) == (d : Int) + 1) = bx := ⟨_, rfl⟩
    go_upto_if 20 with fail
    go_cut [7] from 21 to 26 (fun s7 wc => s7 = .int .i64 (F : Nat) ∧ ∃ ip ic, Known wc wo.heap.size 44 #[.int .i64 4, .int .i64 0, .string ⟨#[]⟩, .slice ip I.len ic, .slice none 0 0] ∧ insS.sl (fun k => wo.heap.size ≤ k ∧ k ≠ wo.heap.size) wc (.slice ip I.len ic) I ∧ Below wo.heap.size wo wc)
    case first =>
     have K0 := Known.made wo 44 #[.int .i64 4, .int .i64 0, .string ⟨#[]⟩, .slice none 0 0, .slice none 0 0]
     cases bx with
     | true =>
       have hx : x.1.size = d + 1 := by have := eq_of_beq hbx; omega
       obtain ⟨rfl, hI⟩ := HFI.out.1 hx
       have hC := pparse17_any x.2 (wo.alloc (.cells #[.int .i64 4, .int .i64 0, .string ⟨#[]⟩, .slice none 0 0, .slice none 0 0] 44)) (by have := hxs.2; omega) (HM.out.below (below_then HB.out (below_new0 _ _)))
       rw [← hI] at hC
       have d1 := ((below_new0 wo (.cells #[.int .i64 4, .int .i64 0, .string ⟨#[]⟩, .slice none 0 0, .slice none 0 0] 44)).cell (p := ⟨b, o + 1, none⟩) hbl).trans ((HB.out.cell (p := ⟨b, o + 1, none⟩) hblw).trans HC0.out)
       have hCC := Lib.hid hC
       clear hC hI hx hbx
       go_wp2_with fail
       refine hCC.out.mono ?_
       rintro e w2 ⟨ip, ic, rfl, his, hb2⟩
       have K2 := K0.on hb2
       have f3 := K2.free 3
       have x3 := K2.cell 3
       have hXl := K2.lt
       have HIS := Lib.hid his
       have HB2 := Lib.hid hb2
       have HK2 := Lib.hid K2
       clear his hb2 K2 K0 hCC
       go_wp2_with fail
       go_meet
       case rel =>
        have his := HIS.out
        rw [World.size_alloc] at his
        refine ⟨by go_num, ip, ic, HK2.out.put 3 _, insS.sl_on (insS.sl_on his (Kept.mono fun k hk _ => ⟨by omega, by omega⟩)) (Kept.put (fun k hk => hk.2) _ _), ((below_new0 wo _).trans (HB2.out.mono (by simp))).setCell (Nat.le_refl _) _⟩
     | false =>
       have hx : ¬ x.1.size = d + 1 := by
        intro h
        rw [h] at hbx
        simp at hbx
       obtain ⟨rfl, rfl⟩ := HFI.out.2 hx
       clear hx hbx
       go_wp2_with fail
       go_meet
       case rel => exact ⟨by go_num, none, 0, K0, Sl.empty, below_new0 _ _⟩
    case rest =>
     obtain ⟨rfl, ip, ic, K3, his, hb3⟩ := hcut
     have HK3 := Lib.hid K3
     have HIS := Lib.hid his
     have HB3 := Lib.hid hb3
     have hcells : ∀ i (y : Bt), F + i < m + 1 → (x :: r)[F + i]? = some y → wc.cell? ⟨b, o + (F + i) * 2, none⟩ = some (.string y.1) := fun i y hi hy =>
      (hb3.cell (p := ⟨b, o + (F + i) * 2, none⟩) hbl).trans ((HB.out.cell (p := ⟨b, o + (F + i) * 2, none⟩) hblw).trans (HC.out (F + i) y hy).1)
     have HCE := Lib.hid hcells
     have hbl3 : b < wc.heap.size := Nat.lt_of_lt_of_le hbl hb3.size
     clear K3 his hb3 hcells d0 hbx
     obtain ⟨V, hV⟩ : ∃ V, V = wc := ⟨_, rfl⟩
     subst hV
     go_wp2_with fail
     go_loopg [7] (q + 1) (fun g s7 wi => ∃ i n : Nat, n = F + i ∧ s7 = .int .i64 (n : Nat) ∧ i ≤ q ∧ q < i + g ∧ wi = V)
     case atStart => exact ⟨0, F, rfl, rfl, by omega, by omega, rfl⟩
     case round =>
      obtain ⟨i, n, hn, rfl, hi, hgi, hwi⟩ := hrel
      subst hwi
      obtain ⟨t, ht⟩ : ∃ t : Bool, decide (i < q) = t := ⟨_, rfl⟩
      go_upto_region 9 with fail
      go_cut [42] from 28 to 42 (fun s42 wd => s42 = .bool t ∧ wr = wd)
      case first =>
       by_cases him : n < m + 1
       ·have g1 : decide ((n : Int) < (m : Int) + 1) = true := decide_eq_true (by omega)
        have g3 : decide (n < m + 1) = true := decide_eq_true him
        obtain ⟨y, hy, hy2⟩ := HIN.out i (by omega)
        have hyc := HCE.out i y (by omega) hy2
        rw [← hn] at hyc
        have hyl : y.1.data.toList.length = y.1.size := by simp
        have hcmp2 : decide ((d : Int) + 1 < (y.1.size : Int)) = t := by
         rw [← ht]
         by_cases hiq : i < q
         ·rw [decide_eq_true hiq]
          have := HQ1.out i y hiq hy
          exact decide_eq_true (by omega)
         ·obtain rfl : i = q := by omega
          rw [decide_eq_false hiq]
          have := HQ2.out y hy
          exact decide_eq_false (by omega)
        clear hy hy2 ht hyl hn
        go_wp2_with fail
        go_meet
        case rel => exact ⟨rfl, rfl⟩
       ·have g1 : decide ((n : Int) < (m : Int) + 1) = false := decide_eq_false (by omega)
        have g3 : decide (n < m + 1) = false := decide_eq_false him
        have ht2 : t = false := by rw [← ht]; exact decide_eq_false (by omega)
        subst ht2
        clear ht hn
        go_wp2_with fail
        go_meet
        case rel => exact ⟨rfl, rfl⟩
      case rest =>
       obtain ⟨rfl, rfl⟩ := hcut
       cases t with
       | true =>
         have hiq : i < q := of_decide_eq_true ht
         have hn2 : n + 1 = F + (i + 1) := by omega
         clear ht hn
         go_wp2_with fail
         go_roundg (q - i)
         case measure => omega
         case rel => exact ⟨i + 1, n + 1, hn2, by go_num, by omega, by omega, rfl⟩
       | false =>
         have hiq : i = q := by have := of_decide_eq_false ht; omega
         subst hiq
         clear ht
         have hlen : (((x :: r).drop F).take i).length = i := by rw [List.length_take, List.length_drop, List.length_cons, ← HMM.out]; omega
         have hsp := sumD_split d F ((x :: r).map toIt)
         have hsp2 := sumD_split d i (((x :: r).drop F).map toIt)
         have hdd2 : Deep d (((x :: r).drop F).map toIt) := by rw [map_drop_it]; exact HDR.out.drop _
         have hdt : Deep (d + 1) ((((x :: r).drop F).take i).map toIt) := by rw [map_take_it, HQ.out]; exact deep_take _
         have hsu := sumD_succ d _ (hdd2.take i)
         have hTl : (List.take i (((x :: r).drop F).map toIt)).length = i := by rw [List.length_take, List.length_map, List.length_drop, List.length_cons, ← HMM.out]; omega
         rw [hTl] at hsu
         have hsF : 1 ≤ F → 1 ≤ sumD d (((x :: r).map toIt).take F) := fun h => by
          obtain ⟨F', rfl⟩ : ∃ F', F = F' + 1 := ⟨F - 1, by omega⟩
          rw [List.map_cons, List.take_succ_cons, sumD_cons]
          have := HDR.out (toIt x) (by simp)
          omega
         have hmeas : 2 * sumD (d + 1) ((((x :: r).drop F).take i).map toIt) ≤ N := by
          rw [map_take_it]
          rw [← map_drop_it] at hsp
          have h1 := HNR.out
          omega
         subst hn
         have hzw := HB.out.size
         have hcmx := HVR.out.2.1
         have hXlt : wo.heap.size < wr.heap.size := HK3.out.lt
         have hst := HST.out
         rw [HQ.out] at hst
         have hqi : deepN d (List.map toIt (List.drop F (x :: r))) = i := HQ.out.symm
         rw [hqi, ← map_take_it, ← map_drop_it] at hst
         have hDl2 : ((x :: r).drop (F + i)).length = m + 1 - (F + i) := by rw [List.length_drop, List.length_cons, ← HMM.out]
         have hNd : 2 * sumD d (((x :: r).drop (F + i)).map toIt) ≤ N + 1 := by
          rw [map_drop_it]
          have h1 := sumD_split d (F + i) ((x :: r).map toIt)
          have h2 := HNR.out
          omega
         have hDd : Deep d (((x :: r).drop (F + i)).map toIt) := by rw [map_drop_it]; exact HDR.out.drop _
         have hSd := HSR.out.drop (F + i)
         have hdd := HD.out
         rw [hst] at hdd
         have hShT : ShortI (((x :: r).drop F).take i) := (HSR.out.drop F).take i
         have hILF : ∀ W, Below w.heap.size w W → ¬ c = F → IL W (some ⟨b, o + F * 2, none⟩) (c - F) (((x :: r).drop F).take i) := fun W hW hcF =>
          ((HVR.out.drop hblw HC.out F (by rw [List.length_cons, ← HMM.out]; omega)).take i (by rw [List.length_drop, List.length_cons, ← HMM.out]; omega)).below hW
         have hILn : ¬ c = F + i → IL w (some ⟨b, o + (F + i) * 2, none⟩) (c - (F + i)) ((x :: r).drop (F + i)) := fun _ => HVR.out.drop hblw HC.out (F + i) (by rw [List.length_cons, ← HMM.out]; omega)
         generalize hK : LI (d + 1) ((((x :: r).drop F).take i).map toIt) = K at *
         generalize hDR : (x :: r).drop (F + i) = DR at *
         have hd2 : (D.app (.cons 4 0 ⟨#[]⟩ I K .nil)).app (IT d (DR.map toIt)) = IT d (l.map toIt) := by rw [Bls.app_assoc]; exact hdd
         have hbW : Below w.heap.size w wr := below_then HB.out HB3.out
         have HD2 := Lib.hid hd2
         have HLAST := Lib.hid (And.intro hNd (And.intro hDd (And.intro hSd hDl2)))
         have HILF := Lib.hid hILF
         have HILn := Lib.hid hILn
         have HBW := Lib.hid hbW
         have HLEN := Lib.hid hlen
         have HDT := Lib.hid hdt
         have HME := Lib.hid hmeas
         have HSHT := Lib.hid hShT
         have HKK := Lib.hid hK
         have HCAST : Hid (((d : Int) + 1) = ((d + 1 : Nat) : Int)) := Lib.hid (by omega)
         clear hst hqi hDl2 hNd hDd hSd hdd hILF hILn hK hDR hd2 hbW hsp hsp2 hdd2 hdt hsu hTl hsF hmeas hlen hShT
         by_cases hcF : c = F
         ·have hi0 : i = 0 := by omega
          have hm0 : m + 1 = F := by omega
          subst hi0
          have hC := ih (d + 1) (((x :: r).drop F).take 0) (some ⟨b, o, none⟩) 0 wr HME.out HDT.out HSHT.out (by rw [HLEN.out]; omega) (HM.out.below HBW.out) (by have h0 : (((x :: r).drop F).take 0) = [] := List.length_eq_zero_iff.1 HLEN.out; rw [h0]; exact IL.nothing (by omega))
          rw [HKK.out, HLEN.out] at hC
          have hCC := Lib.hid hC
          clear hC
          go_wp2_with fail
          rw [HCAST.out]
          refine hCC.out.mono ?_
          rintro e w4 ⟨kp, kc, rfl, hks, hb4⟩
          have K4 := HK3.out.on hb4
          have f4 := K4.free 4
          have x0 := K4.cell 0
          have x1 := K4.cell 1
          have x2 := K4.cell 2
          have x3 := K4.cell 3
          have x4 := K4.cell 4
          have hXl4 := K4.lt
          have hzz : wo.heap.size ≤ wr.heap.size := HB3.out.size
          have hi5 : insS.sl (fun k => wo.heap.size ≤ k) (w4.setCell ⟨wo.heap.size, 4, none⟩ (.slice kp K.len kc)) (.slice ip I.len ic) I := insS.sl_on (insS.sl_on (insS.sl_on HIS.out (Kept.below hb4)) (Kept.put (fun k hk => hk.2) 4 (.slice kp K.len kc))) (Kept.mono fun k hk _ => hk.1)
          have hk5 : blsS.sl (fun k => wo.heap.size ≤ k) (w4.setCell ⟨wo.heap.size, 4, none⟩ (.slice kp K.len kc)) (.slice kp K.len kc) K := blsS.sl_on (blsS.sl_on hks (Kept.put (fun k hk => by omega) 4 (.slice kp K.len kc))) (Kept.mono fun k hk _ => by omega)
          have hb5 : Below wo.heap.size wo (w4.setCell ⟨wo.heap.size, 4, none⟩ (.slice kp K.len kc)) := (below_then HB3.out hb4).setCell (Nat.le_refl _) _
          have hok := blk_ready (a := 4) (l := 0) (t := ⟨#[]⟩) (i := I) (k := K) HO.out hzw hb5 hi5 hk5
          have hszs : (w4.setCell ⟨wo.heap.size, 4, none⟩ (.slice kp K.len kc)).heap.size = w4.heap.size := by simp
          rw [World.size_alloc, hszs] at hok
          have HOK := Lib.hid hok
          clear hok hks hb4 hi5 hk5 hb5 hCC K4
          go_wp2_with (at_builtin; go_must (refine append_shp blsS tyB _ rfl _ _ rfl HOK.out.1 rfl HOK.out.2.1 rfl (by show (D.len + 1) * 81 ≤ _; omega) (by rw [World.size_alloc, hszs]; exact HOK.out.2.2.1) ?_); intro v' w5 hown' hgrow hbel hkd)
          have hbn := hbel w (below_then HB.out HOK.out.2.2.2)
          have hrel' : ∃ (R : List Bt) (p : Option Addr) (cc : Nat) (D' : Bls), Value.slice (some ⟨b, o, none⟩) 0 0 = .slice p R.length cc ∧ IL w p cc R ∧ R.length < (m + 1 - (F + 0)) + 1 ∧ D'.app (IT d (R.map toIt)) = IT d (l.map toIt) ∧ D'.len + R.length ≤ l.length ∧ 2 * sumD d (R.map toIt) ≤ N + 1 ∧ Deep d (R.map toIt) ∧ ShortI R ∧ Below w.heap.size w w5 ∧ blsS.own 44 (fun _ => False) w.heap.size w5 v' D' := by
           obtain ⟨h1, h2, h3, h4⟩ := HLAST.out
           refine ⟨DR, some ⟨b, o, none⟩, 0, D.app (.cons 4 0 ⟨#[]⟩ I K .nil), (by have h0 : DR.length = 0 := (by omega); rw [h0]), (by have h0 : DR = [] := List.length_eq_zero_iff.1 (by omega); rw [h0]; exact IL.nothing (by omega)), by omega, HD2.out, by rw [Bls.len_app]; show D.len + 1 + DR.length ≤ _; omega, h1, h2, h3, hbn, hown'⟩
          have HREL := Lib.hid hrel'
          clear hrel' hown' hgrow hbel hkd hbn
          go_roundg ((m + 1 - (F + 0)) + 1)
          case measure => omega
          case rel => exact HREL.out
         ·by_cases hcn : c = F + i
          ·have hC := ih (d + 1) (((x :: r).drop F).take i) (some ⟨b, o + F * 2, none⟩) i wr HME.out HDT.out HSHT.out (by rw [HLEN.out]; omega) (HM.out.below HBW.out) (by have h := HILF.out _ HBW.out hcF; have e : c - F = i := (by omega); rw [e] at h; exact h)
           rw [HKK.out, HLEN.out] at hC
           have hCC := Lib.hid hC
           clear hC
           go_wp2_with fail
           rw [HCAST.out]
           refine hCC.out.mono ?_
           rintro e w4 ⟨kp, kc, rfl, hks, hb4⟩
           have K4 := HK3.out.on hb4
           have f4 := K4.free 4
           have x0 := K4.cell 0
           have x1 := K4.cell 1
           have x2 := K4.cell 2
           have x3 := K4.cell 3
           have x4 := K4.cell 4
           have hXl4 := K4.lt
           have hzz : wo.heap.size ≤ wr.heap.size := HB3.out.size
           have hi5 : insS.sl (fun k => wo.heap.size ≤ k) (w4.setCell ⟨wo.heap.size, 4, none⟩ (.slice kp K.len kc)) (.slice ip I.len ic) I := insS.sl_on (insS.sl_on (insS.sl_on HIS.out (Kept.below hb4)) (Kept.put (fun k hk => hk.2) 4 (.slice kp K.len kc))) (Kept.mono fun k hk _ => hk.1)
           have hk5 : blsS.sl (fun k => wo.heap.size ≤ k) (w4.setCell ⟨wo.heap.size, 4, none⟩ (.slice kp K.len kc)) (.slice kp K.len kc) K := blsS.sl_on (blsS.sl_on hks (Kept.put (fun k hk => by omega) 4 (.slice kp K.len kc))) (Kept.mono fun k hk _ => by omega)
           have hb5 : Below wo.heap.size wo (w4.setCell ⟨wo.heap.size, 4, none⟩ (.slice kp K.len kc)) := (below_then HB3.out hb4).setCell (Nat.le_refl _) _
           have hok := blk_ready (a := 4) (l := 0) (t := ⟨#[]⟩) (i := I) (k := K) HO.out hzw hb5 hi5 hk5
           have hszs : (w4.setCell ⟨wo.heap.size, 4, none⟩ (.slice kp K.len kc)).heap.size = w4.heap.size := by simp
           rw [World.size_alloc, hszs] at hok
           have HOK := Lib.hid hok
           clear hok hks hb4 hi5 hk5 hb5 hCC K4
           go_wp2_with (at_builtin; go_must (refine append_shp blsS tyB _ rfl _ _ rfl HOK.out.1 rfl HOK.out.2.1 rfl (by show (D.len + 1) * 81 ≤ _; omega) (by rw [World.size_alloc, hszs]; exact HOK.out.2.2.1) ?_); intro v' w5 hown' hgrow hbel hkd)
           have hbn := hbel w (below_then HB.out HOK.out.2.2.2)
           have hrel' : ∃ (R : List Bt) (p : Option Addr) (cc : Nat) (D' : Bls), Value.slice (some ⟨b, o, none⟩) (m + 1 - (F + i)) (F + i - (F + i)) = .slice p R.length cc ∧ IL w p cc R ∧ R.length < (m + 1 - (F + i)) + 1 ∧ D'.app (IT d (R.map toIt)) = IT d (l.map toIt) ∧ D'.len + R.length ≤ l.length ∧ 2 * sumD d (R.map toIt) ≤ N + 1 ∧ Deep d (R.map toIt) ∧ ShortI R ∧ Below w.heap.size w w5 ∧ blsS.own 44 (fun _ => False) w.heap.size w5 v' D' := by
            obtain ⟨h1, h2, h3, h4⟩ := HLAST.out
            refine ⟨DR, some ⟨b, o, none⟩, F + i - (F + i), D.app (.cons 4 0 ⟨#[]⟩ I K .nil), by rw [h4], (by have h0 : DR = [] := List.length_eq_zero_iff.1 (by omega); rw [h0]; exact IL.nothing (by omega)), by omega, HD2.out, by rw [Bls.len_app]; show D.len + 1 + DR.length ≤ _; omega, h1, h2, h3, hbn, hown'⟩
           have HREL := Lib.hid hrel'
           clear hrel' hown' hgrow hbel hkd hbn
           go_roundg ((m + 1 - (F + i)) + 1)
           case measure => omega
           case rel => exact HREL.out
          ·have hC := ih (d + 1) (((x :: r).drop F).take i) (some ⟨b, o + F * 2, none⟩) (c - F) wr HME.out HDT.out HSHT.out (by rw [HLEN.out]; omega) (HM.out.below HBW.out) (HILF.out _ HBW.out hcF)
           rw [HKK.out, HLEN.out] at hC
           have hCC := Lib.hid hC
           clear hC
           go_wp2_with fail
           rw [HCAST.out]
           refine hCC.out.mono ?_
           rintro e w4 ⟨kp, kc, rfl, hks, hb4⟩
           have K4 := HK3.out.on hb4
           have f4 := K4.free 4
           have x0 := K4.cell 0
           have x1 := K4.cell 1
           have x2 := K4.cell 2
           have x3 := K4.cell 3
           have x4 := K4.cell 4
           have hXl4 := K4.lt
           have hzz : wo.heap.size ≤ wr.heap.size := HB3.out.size
           have hi5 : insS.sl (fun k => wo.heap.size ≤ k) (w4.setCell ⟨wo.heap.size, 4, none⟩ (.slice kp K.len kc)) (.slice ip I.len ic) I := insS.sl_on (insS.sl_on (insS.sl_on HIS.out (Kept.below hb4)) (Kept.put (fun k hk => hk.2) 4 (.slice kp K.len kc))) (Kept.mono fun k hk _ => hk.1)
           have hk5 : blsS.sl (fun k => wo.heap.size ≤ k) (w4.setCell ⟨wo.heap.size, 4, none⟩ (.slice kp K.len kc)) (.slice kp K.len kc) K := blsS.sl_on (blsS.sl_on hks (Kept.put (fun k hk => by omega) 4 (.slice kp K.len kc))) (Kept.mono fun k hk _ => by omega)
           have hb5 : Below wo.heap.size wo (w4.setCell ⟨wo.heap.size, 4, none⟩ (.slice kp K.len kc)) := (below_then HB3.out hb4).setCell (Nat.le_refl _) _
           have hok := blk_ready (a := 4) (l := 0) (t := ⟨#[]⟩) (i := I) (k := K) HO.out hzw hb5 hi5 hk5
           have hszs : (w4.setCell ⟨wo.heap.size, 4, none⟩ (.slice kp K.len kc)).heap.size = w4.heap.size := by simp
           rw [World.size_alloc, hszs] at hok
           have HOK := Lib.hid hok
           clear hok hks hb4 hi5 hk5 hb5 hCC K4
           go_wp2_with (at_builtin; go_must (refine append_shp blsS tyB _ rfl _ _ rfl HOK.out.1 rfl HOK.out.2.1 rfl (by show (D.len + 1) * 81 ≤ _; omega) (by rw [World.size_alloc, hszs]; exact HOK.out.2.2.1) ?_); intro v' w5 hown' hgrow hbel hkd)
           have hbn := hbel w (below_then HB.out HOK.out.2.2.2)
           have hrel' : ∃ (R : List Bt) (p : Option Addr) (cc : Nat) (D' : Bls), Value.slice (some ⟨b, o + (F + i) * 2, none⟩) (m + 1 - (F + i)) (c - (F + i)) = .slice p R.length cc ∧ IL w p cc R ∧ R.length < (m + 1 - (F + i)) + 1 ∧ D'.app (IT d (R.map toIt)) = IT d (l.map toIt) ∧ D'.len + R.length ≤ l.length ∧ 2 * sumD d (R.map toIt) ≤ N + 1 ∧ Deep d (R.map toIt) ∧ ShortI R ∧ Below w.heap.size w w5 ∧ blsS.own 44 (fun _ => False) w.heap.size w5 v' D' := by
            obtain ⟨h1, h2, h3, h4⟩ := HLAST.out
            refine ⟨DR, some ⟨b, o + (F + i) * 2, none⟩, c - (F + i), D.app (.cons 4 0 ⟨#[]⟩ I K .nil), by rw [h4], (HILn.out hcn), by omega, HD2.out, by rw [Bls.len_app]; show D.len + 1 + DR.length ≤ _; omega, h1, h2, h3, hbn, hown'⟩
           have HREL := Lib.hid hrel'
           clear hrel' hown' hgrow hbel hkd hbn
           go_roundg ((m + 1 - (F + i)) + 1)
           case measure => omega
           case rel => exact HREL.out
theorem entries_zero : EntriesR 0 := by
 intro d l p c w hne hN hd
 cases l with
 | nil => exact absurd rfl hne
 | cons x r =>
   have := sumD_pos (x := toIt x) (r := r.map toIt) hd
   rw [List.map_cons] at hN
   omega
theorem plists_all : ∀ N, ListsR N
 | 0 => plists_step 0 entries_zero
 | N + 1 => plists_step (N + 1) (pentries_step N (plists_all N))
end Go.Proofs.YthieinfonomeeaaGreatDoor
