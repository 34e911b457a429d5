/-
  The claim's own texts, packed. Conditions: those typed in each theorem.
-/
import Derived.Test.YthieinfonomeeaaGreatDoorZRaf
import Derived.Test.YthieinfonomeeaaGreatDoorZAba
import Derived.Test.YthieinfonomeeaaGreatDoorZCab
namespace Go.Proofs.YthieinfonomeeaaGreatDoor
open Go.RowKit Doc Tit Inl Blk
set_option linter.unusedVariables false
attribute [local go_sem ↓] Go.wp_at_zero Go.wp_at_succ
set_option maxRecDepth 10000 in
set_option maxHeartbeats 4000000 in
theorem rone_k1 (x : ByteArray) (l : List ByteArray) (p : Option Addr) (c : Nat) (w : World) (ht : Blk.tot (x.data.toList :: bl l) ≤ 1000000) (hv : SL w p c (x :: l)) (hk : kindL x.data.toList = 1) : OneR 2 x l p c w := by
 obtain ⟨b, o, rfl, hb, hc⟩ := hv.head
 have d0 := hc 0 x rfl
 rw [Nat.add_zero] at d0
 have hsh : Short (x :: l) := short_tot (by show Blk.tot (x.data.toList :: bl l) ≤ _; omega)
 have hcl := hv.1
 have hcm := hv.2.1
 unfold OneR
 rw [first1 _ hk]
 obtain ⟨hql, hq1, hq2⟩ := tw_lines (fun l => !(Lib.hasPrefix l [124, 125])) l
 have hbt := bl_tw (fun l => !(Lib.hasPrefix l [124, 125])) l
 obtain ⟨q, hq⟩ : ∃ q, q = ((bl l).takeWhile (fun l => !(Lib.hasPrefix l [124, 125]))).length := ⟨_, rfl⟩
 rw [← hq] at hql hq1 hq2 hbt
 obtain ⟨N, hN⟩ : ∃ N, N = l.length + 1 := ⟨_, rfl⟩
 have hll : (x :: l).length = N := by rw [hN, List.length_cons]
 have hlN : N ≤ 1000000 := by
  have h1 := Blk.len_tot (x.data.toList :: bl l)
  rw [List.length_cons, bl_length] at h1
  omega
 rw [hll] at hcl
 have hat : ∀ k, 1 ≤ k → k ≤ q + 1 → k < N → ∃ y : ByteArray, l[k - 1]? = some y ∧ y.size ≤ 100000000 ∧ (fun l => !(Lib.hasPrefix l [124, 125])) y.data.toList = decide (k < q + 1) := fun k h1 h2 h3 => by
  obtain ⟨y, hy⟩ : ∃ y, l[k - 1]? = some y := ⟨_, List.getElem?_eq_getElem (by omega)⟩
  refine ⟨y, hy, hsh y (List.mem_cons_of_mem _ (List.mem_of_getElem? hy)), ?_⟩
  by_cases hkq : k < q + 1
  ·rw [decide_eq_true hkq]; exact hq1 _ y (by omega) hy
  ·rw [decide_eq_false hkq]
   obtain rfl : k = q + 1 := by omega
   exact hq2 y hy
 have hcell : ∀ k (y : ByteArray), 1 ≤ k → l[k - 1]? = some y → w.cell? ⟨b, o + k, none⟩ = some (.string y) := fun k y h1 hy => hc k y (by
  obtain ⟨m, rfl⟩ : ∃ m, k = m + 1 := ⟨k - 1, by omega⟩
  exact hy)
 have hlt2 : (l.take q).length = q := by rw [List.length_take]; omega
 have htot : Blk.tot (bl (l.take q)) ≤ 10000000 := by
  have h1 := Blk.tot_take q (bl l)
  rw [Blk.tot] at ht
  rw [bl_take]; omega
 have htab : ∀ (W : World) (p' : Option Addr) (c' : Nat), SL W p' c' (l.take q) → Calls Tryz.prog 76 #[.slice p' q c'] W fun e w' => ∃ p2 c2, e = .returned (.agg #[.int .i64 7, .int .i64 0, .string ⟨#[]⟩, .slice none 0 0, .slice p2 (rowsB (tabOf (bl (l.take q)))).len c2]) ∧
   blsS.sl (fun k => W.heap.size ≤ k) w' (.slice p2 (rowsB (tabOf (bl (l.take q)))).len c2) (rowsB (tabOf (bl (l.take q)))) ∧ Below W.heap.size W w' := fun W p' c' h => by
  have := rtable_any (l.take q) p' c' W htot h
  rwa [hlt2] at this
 have hsl0 : q = 0 → ∀ (W : World) (p' : Option Addr), SL W p' 0 (l.take q) := fun h W p' => by rw [h]; exact SL.none_left
 have hsl1 : ∀ (W : World), Below w.heap.size w W → SL W (some ⟨b, o + 1, none⟩) (c - 1) (l.take q) := fun W hW => by
  have h1 := SL.mid (Nat.lt_of_lt_of_le hb hW.size) (fun j y hy => (hW.cell (p := ⟨b, o + j, none⟩) hb).trans (hc j y hy)) (by rw [hll]; exact hcl) hcm 1 (q + 1) (by rw [hll]; omega)
  simpa using h1
 have hfb : ((tableB ((bl l).takeWhile fun l => !(Lib.hasPrefix l [124, 125])), min (((bl l).takeWhile fun l => !(Lib.hasPrefix l [124, 125])).length + 2) ((bl l).length + 1)) : Bls × Nat) = (.cons 7 0 ⟨#[]⟩ .nil (rowsB (tabOf (bl (l.take q)))) .nil, min (q + 2) N) := by
  rw [← hq, bl_length, hN, ← hbt]; rfl
 rw [hfb]
 obtain ⟨TT, hTT⟩ : ∃ TT, rowsB (tabOf (bl (l.take q))) = TT := ⟨_, rfl⟩
 simp only [hTT] at htab ⊢
 rw [← hN]
 have HAT := Lib.hid hat
 have HCE := Lib.hid hcell
 have HTAB := Lib.hid htab
 have HS0 := Lib.hid hsl0
 have HS1 := Lib.hid hsl1
 have K := Known.made w 44 #[.int .i64 0, .int .i64 0, .string ⟨#[]⟩, .slice none 0 0, .slice none 0 0]
 have hbK := below_new0 w (.cells #[.int .i64 0, .int .i64 0, .string ⟨#[]⟩, .slice none 0 0, .slice none 0 0] 44)
 have hlk := K.lt
 have HK := Lib.hid K
 clear hat hcell hk hc hv hq hq1 hq2 hbt hll hsh ht hlt2 htot htab hTT hsl0 hsl1 hfb d0
 go_enter Tryz.func38, Tryz.ntmps38
 go_wp2_with fail
 refine name_wb ?_
 intro W0 hW0
 rw [← hW0] at hbK hlk
 have hKK := HK.out
 rw [← hW0] at hKK
 have HK := Lib.hid hKK
 have hbz : b < W0.heap.size := Nat.lt_of_lt_of_le hb hbK.size
 have HBK := Lib.hid hbK
 clear hW0 hKK K hbK
 go_loopg [6] (N + 1) (fun g s6 wr => ∃ k : Nat, s6 = .int .i64 k ∧ 1 ≤ k ∧ k ≤ q + 1 ∧ q + 1 < k + g ∧ W0 = wr)
 case atStart => exact ⟨1, rfl, by omega, by omega, by omega, rfl⟩
 case round =>
  obtain ⟨k, rfl, hk1, hkq, hg, rfl⟩ := hrel
  obtain ⟨t, htt⟩ : ∃ t : Bool, decide (k < q + 1) = t := ⟨_, rfl⟩
  go_upto_region 4 with fail
  go_cut [24] from 13 to 24 (fun s24 wc => s24 = .bool t ∧ W0 = wc)
  case first =>
   by_cases hkn : k < N
   ·have g2 : decide (k < N) = true := decide_eq_true hkn
    obtain ⟨y, hyl, hyz, hcmp⟩ := HAT.out k hk1 hkq hkn
    rw [htt] at hcmp
    have hA : ∀ W, Calls Tryz.prog 73 #[.string y, .int .i64 0, .string ⟨#[124, 125]⟩] W fun e w' => e = .returned (.bool (Lib.hasPrefix y.data.toList [124, 125])) ∧ W = w' := fun W => at_any y ⟨#[124, 125]⟩ 0 W (by omega) (by decide) (Nat.zero_le _)
    have hnt : Lib.hasPrefix y.data.toList [124, 125] = !t := by rw [← hcmp]; simp
    simp only [hnt] at hA
    have d1 := (HBK.out.cell (p := ⟨b, o + k, none⟩) hb).trans (HCE.out k y hk1 hyl)
    have HA := Lib.hid hA
    clear htt hyl hcmp hA hnt
    go_wp2_with fail
    refine (HA.out _).mono ?_
    rintro e w1 ⟨rfl, rfl⟩
    go_wp2_with fail
    go_meet
    case rel => exact ⟨rfl, rfl⟩
   ·have g2 : decide (k < N) = false := decide_eq_false hkn
    have ht2 : t = false := by rw [← htt]; exact decide_eq_false (by omega)
    subst ht2
    clear htt
    go_wp2_with fail
    go_meet
    case rel => exact ⟨rfl, rfl⟩
  case rest =>
   obtain ⟨rfl, rfl⟩ := hcut
   cases t with
   | true =>
     have hkK2 : k < q + 1 := of_decide_eq_true htt
     clear htt
     go_wp2_with fail
     go_roundg (q + 1 - k)
     case measure => omega
     case rel => exact ⟨k + 1, by go_num, by omega, by omega, by omega, rfl⟩
   | false =>
     have hkK2 : k = q + 1 := by have := of_decide_eq_false htt; omega
     subst hkK2
     clear htt
     by_cases hc1 : c = 1
     ·have HT0 := HTAB.out W0 (some ⟨b, o, none⟩) 0 (HS0.out (by omega) _ _)
      go_wp2_with fail
      refine HT0.mono ?_
      rintro e w3 ⟨pI, cI, rfl, hsl, hb3⟩
      have hb4 := below_then HBK.out hb3
      have hz3 := hb3.size
      have KW := HK.out.below hb3 (by omega)
      have f0 := KW.free 0
      have f1 := KW.free 1
      have f2 := KW.free 2
      have f3 := KW.free 3
      have f4 := KW.free 4
      obtain ⟨z0, z1, z2, z3, z4⟩ := KW.five
      have hlW := KW.lt
      have hsl1 : blsS.sl (fun k => w.heap.size ≤ k ∧ k ≠ w.heap.size) w3 (.slice pI TT.len cI) TT := blsS.sl_on hsl (Kept.mono fun k hk _ => by omega)
      have HSL := Lib.hid hsl1
      have HKW := Lib.hid KW
      clear hsl hsl1 hb3 KW
      go_wp2_with fail
      clear z0 z1 z2 z3 z4
      have KZ := (((((HKW.out.put 0 (.int .i64 7)).put 1 (.int .i64 0)).put 2 (.string ⟨#[]⟩)).put 3 (.slice none 0 0)).put 4 (.slice pI TT.len cI))
      obtain ⟨z0, z1, z2, z3, z4⟩ := KZ.five
      exact bodyPost_ret (v := .tuple #[.agg #[.int .i64 7, .int .i64 0, .string ⟨#[]⟩, .slice none 0 0, .slice pI TT.len cI], .int .i64 ((min (q + 2) N : Nat) : Int)]) (by simp [results, Tryz.results38, go_sem, z0, z1, z2, z3, z4]; omega) rfl
       ⟨7, 0, ⟨#[]⟩, .nil, TT, .slice none 0 0, .slice pI TT.len cI, rfl, rfl, insS.sl_on (insS.sl_on (q := fun k => w.heap.size ≤ k ∧ k ≠ w.heap.size) Sl.empty ((((Kept.put (fun k hk => hk.2) 0 _).trans (Kept.put (fun k hk => hk.2) 1 _)).trans (Kept.put (fun k hk => hk.2) 2 _)).trans ((Kept.put (fun k hk => hk.2) 3 _).trans (Kept.put (fun k hk => hk.2) 4 _)))) (Kept.mono fun k hk _ => hk.1), blsS.sl_on (blsS.sl_on HSL.out ((((Kept.put (fun k hk => hk.2) 0 _).trans (Kept.put (fun k hk => hk.2) 1 _)).trans (Kept.put (fun k hk => hk.2) 2 _)).trans ((Kept.put (fun k hk => hk.2) 3 _).trans (Kept.put (fun k hk => hk.2) 4 _)))) (Kept.mono fun k hk _ => hk.1), (((((hb4.setCell (p := ⟨w.heap.size, 0, none⟩) (Nat.le_refl _) _).setCell (p := ⟨w.heap.size, 1, none⟩) (Nat.le_refl _) _).setCell (p := ⟨w.heap.size, 2, none⟩) (Nat.le_refl _) _).setCell (p := ⟨w.heap.size, 3, none⟩) (Nat.le_refl _) _).setCell (p := ⟨w.heap.size, 4, none⟩) (Nat.le_refl _) _)⟩
     ·have HT0 := HTAB.out W0 (some ⟨b, o + 1, none⟩) (c - 1) (HS1.out _ HBK.out)
      go_wp2_with fail
      refine HT0.mono ?_
      rintro e w3 ⟨pI, cI, rfl, hsl, hb3⟩
      have hb4 := below_then HBK.out hb3
      have hz3 := hb3.size
      have KW := HK.out.below hb3 (by omega)
      have f0 := KW.free 0
      have f1 := KW.free 1
      have f2 := KW.free 2
      have f3 := KW.free 3
      have f4 := KW.free 4
      obtain ⟨z0, z1, z2, z3, z4⟩ := KW.five
      have hlW := KW.lt
      have hsl1 : blsS.sl (fun k => w.heap.size ≤ k ∧ k ≠ w.heap.size) w3 (.slice pI TT.len cI) TT := blsS.sl_on hsl (Kept.mono fun k hk _ => by omega)
      have HSL := Lib.hid hsl1
      have HKW := Lib.hid KW
      clear hsl hsl1 hb3 KW
      go_wp2_with fail
      clear z0 z1 z2 z3 z4
      have KZ := (((((HKW.out.put 0 (.int .i64 7)).put 1 (.int .i64 0)).put 2 (.string ⟨#[]⟩)).put 3 (.slice none 0 0)).put 4 (.slice pI TT.len cI))
      obtain ⟨z0, z1, z2, z3, z4⟩ := KZ.five
      exact bodyPost_ret (v := .tuple #[.agg #[.int .i64 7, .int .i64 0, .string ⟨#[]⟩, .slice none 0 0, .slice pI TT.len cI], .int .i64 ((min (q + 2) N : Nat) : Int)]) (by simp [results, Tryz.results38, go_sem, z0, z1, z2, z3, z4]; omega) rfl
       ⟨7, 0, ⟨#[]⟩, .nil, TT, .slice none 0 0, .slice pI TT.len cI, rfl, rfl, insS.sl_on (insS.sl_on (q := fun k => w.heap.size ≤ k ∧ k ≠ w.heap.size) Sl.empty ((((Kept.put (fun k hk => hk.2) 0 _).trans (Kept.put (fun k hk => hk.2) 1 _)).trans (Kept.put (fun k hk => hk.2) 2 _)).trans ((Kept.put (fun k hk => hk.2) 3 _).trans (Kept.put (fun k hk => hk.2) 4 _)))) (Kept.mono fun k hk _ => hk.1), blsS.sl_on (blsS.sl_on HSL.out ((((Kept.put (fun k hk => hk.2) 0 _).trans (Kept.put (fun k hk => hk.2) 1 _)).trans (Kept.put (fun k hk => hk.2) 2 _)).trans ((Kept.put (fun k hk => hk.2) 3 _).trans (Kept.put (fun k hk => hk.2) 4 _)))) (Kept.mono fun k hk _ => hk.1), (((((hb4.setCell (p := ⟨w.heap.size, 0, none⟩) (Nat.le_refl _) _).setCell (p := ⟨w.heap.size, 1, none⟩) (Nat.le_refl _) _).setCell (p := ⟨w.heap.size, 2, none⟩) (Nat.le_refl _) _).setCell (p := ⟨w.heap.size, 3, none⟩) (Nat.le_refl _) _).setCell (p := ⟨w.heap.size, 4, none⟩) (Nat.le_refl _) _)⟩
end Go.Proofs.YthieinfonomeeaaGreatDoor
namespace Go.Proofs.YthieinfonomeeaaGreatDoor
open Go.RowKit Doc Tit Inl Blk
set_option linter.unusedVariables false
attribute [local go_sem ↓] Go.wp_at_zero Go.wp_at_succ
set_option maxRecDepth 10000 in
set_option maxHeartbeats 4000000 in
theorem rone_k6 (x : ByteArray) (l : List ByteArray) (p : Option Addr) (c : Nat) (w : World) (ht : Blk.tot (x.data.toList :: bl l) ≤ 1000000) (hv : SL w p c (x :: l)) (hk : kindL x.data.toList = 6) : OneR 7 x l p c w := by
 obtain ⟨b, o, rfl, hb, hc⟩ := hv.head
 have d0 := hc 0 x rfl
 rw [Nat.add_zero] at d0
 have hsh : Short (x :: l) := short_tot (by show Blk.tot (x.data.toList :: bl l) ≤ _; omega)
 have hcl := hv.1
 have hcm := hv.2.1
 unfold OneR
 rw [first6 _ hk]
 obtain ⟨hql, hq1, hq2⟩ := tw_lines (fun l => decide (kindL l = 6)) l
 have hbt := bl_tw (fun l => decide (kindL l = 6)) l
 obtain ⟨q, hq⟩ : ∃ q, q = ((bl l).takeWhile (fun l => decide (kindL l = 6))).length := ⟨_, rfl⟩
 rw [← hq] at hql hq1 hq2 hbt
 obtain ⟨N, hN⟩ : ∃ N, N = l.length + 1 := ⟨_, rfl⟩
 have hll : (x :: l).length = N := by rw [hN, List.length_cons]
 have hlN : N ≤ 1000000 := by
  have h1 := Blk.len_tot (x.data.toList :: bl l)
  rw [List.length_cons, bl_length] at h1
  omega
 rw [hll] at hcl
 have hat : ∀ k, 1 ≤ k → k ≤ q + 1 → k < N → ∃ y : ByteArray, l[k - 1]? = some y ∧ y.size ≤ 100000000 ∧ (fun l => decide (kindL l = 6)) y.data.toList = decide (k < q + 1) := fun k h1 h2 h3 => by
  obtain ⟨y, hy⟩ : ∃ y, l[k - 1]? = some y := ⟨_, List.getElem?_eq_getElem (by omega)⟩
  refine ⟨y, hy, hsh y (List.mem_cons_of_mem _ (List.mem_of_getElem? hy)), ?_⟩
  by_cases hkq : k < q + 1
  ·rw [decide_eq_true hkq]; exact hq1 _ y (by omega) hy
  ·rw [decide_eq_false hkq]
   obtain rfl : k = q + 1 := by omega
   exact hq2 y hy
 have hcell : ∀ k (y : ByteArray), 1 ≤ k → l[k - 1]? = some y → w.cell? ⟨b, o + k, none⟩ = some (.string y) := fun k y h1 hy => hc k y (by
  obtain ⟨m, rfl⟩ : ∃ m, k = m + 1 := ⟨k - 1, by omega⟩
  exact hy)
 have hlt2 : (x :: l.take q).length = q + 1 := by rw [List.length_cons, List.length_take]; omega
 have hbx : bl (x :: l.take q) = x.data.toList :: (bl l).takeWhile fun l => decide (kindL l = 6) := by
  show x.data.toList :: bl (l.take q) = _
  rw [hbt]
 have htot : Blk.tot (bl (x :: l.take q)) ≤ 1000000 := by
  show Blk.tot (x.data.toList :: bl (l.take q)) ≤ _
  have h1 := Blk.tot_take q (bl l)
  rw [Blk.tot] at ht ⊢
  rw [bl_take]; omega
 have htk := hv.take (q + 1) (by rw [List.length_cons]; omega)
 rw [List.take_succ_cons] at htk
 have hJ : ∀ (W : World), Below w.heap.size w W → Calls Tryz.prog 79 #[.slice (some ⟨b, o, none⟩) (q + 1) c] W fun e w' => e = .returned (.string ⟨(joinL (bl (x :: l.take q))).toArray⟩) ∧ W = w' := fun W hW => by
  have := rjoin_any (x :: l.take q) (some ⟨b, o, none⟩) c W (by omega) (htk.below hW)
  rwa [hlt2] at this
 have hjl := joinL_len (bl (x :: l.take q))
 rw [hbx] at hJ hjl htot
 rw [← hq]
 obtain ⟨JJ, hJJ⟩ : ∃ JJ, joinL (x.data.toList :: (bl l).takeWhile fun l => decide (kindL l = 6)) = JJ := ⟨_, rfl⟩
 rw [hJJ] at hjl ⊢
 simp only [hJJ] at hJ
 have hP := fun W => rparse17_any ⟨JJ.toArray⟩ W (by show JJ.length ≤ _; omega)
 have eT : (⟨JJ.toArray⟩ : ByteArray).data.toList = JJ := rfl
 rw [eT] at hP
 obtain ⟨TB, hTB⟩ : ∃ TB : ByteArray, ⟨JJ.toArray⟩ = TB := ⟨_, rfl⟩
 rw [hTB] at hP
 simp only [hTB] at hJ
 obtain ⟨R, hR⟩ : ∃ R, read JJ = R := ⟨_, rfl⟩
 simp only [hR] at hP ⊢
 rw [← hN]
 have HAT := Lib.hid hat
 have HCE := Lib.hid hcell
 have HJ := Lib.hid hJ
 have HP := Lib.hid hP
 have K := Known.made w 44 #[.int .i64 0, .int .i64 0, .string ⟨#[]⟩, .slice none 0 0, .slice none 0 0]
 have hbK := below_new0 w (.cells #[.int .i64 0, .int .i64 0, .string ⟨#[]⟩, .slice none 0 0, .slice none 0 0] 44)
 have hlk := K.lt
 have HK := Lib.hid K
 clear hat hcell hk hc hv hq hq1 hq2 hbt hll hsh ht hlt2 htot hJJ hjl hTB eT hR hJ hP htk hbx d0
 go_enter Tryz.func38, Tryz.ntmps38
 go_wp2_with fail
 refine name_wb ?_
 intro W0 hW0
 rw [← hW0] at hbK hlk
 have hKK := HK.out
 rw [← hW0] at hKK
 have HK := Lib.hid hKK
 have hbz : b < W0.heap.size := Nat.lt_of_lt_of_le hb hbK.size
 have HBK := Lib.hid hbK
 clear hW0 hKK K hbK
 go_loopg [6] (N + 1) (fun g s6 wr => ∃ k : Nat, s6 = .int .i64 k ∧ 1 ≤ k ∧ k ≤ q + 1 ∧ q + 1 < k + g ∧ W0 = wr)
 case atStart => exact ⟨1, rfl, by omega, by omega, by omega, rfl⟩
 case round =>
  obtain ⟨k, rfl, hk1, hkq, hg, rfl⟩ := hrel
  obtain ⟨t, htt⟩ : ∃ t : Bool, decide (k < q + 1) = t := ⟨_, rfl⟩
  go_upto_region 18 with fail
  go_cut [103] from 92 to 103 (fun s103 wc => s103 = .bool t ∧ W0 = wc)
  case first =>
   by_cases hkn : k < N
   ·have g2 : decide (k < N) = true := decide_eq_true hkn
    obtain ⟨y, hyl, hyz, hcmp⟩ := HAT.out k hk1 hkq hkn
    rw [htt] at hcmp
    have hA := fun W => rfirst_any y W hyz
    obtain ⟨kk, hkk⟩ : ∃ kk : Nat, kindL y.data.toList + 1 = kk := ⟨_, rfl⟩
    rw [hkk] at hA
    have hnt : ((kk : Int) == 7) = t := by
     rw [← hcmp, ← hkk, Bool.eq_iff_iff]; simp; omega
    have d1 := (HBK.out.cell (p := ⟨b, o + k, none⟩) hb).trans (HCE.out k y hk1 hyl)
    have HA := Lib.hid hA
    clear htt hyl hcmp hA hkk
    go_wp2_with fail
    refine (HA.out _).mono ?_
    rintro e w1 ⟨rfl, rfl⟩
    go_wp2_with fail
    go_meet
    case rel => exact ⟨rfl, rfl⟩
   ·have g2 : decide (k < N) = false := decide_eq_false hkn
    have ht2 : t = false := by rw [← htt]; exact decide_eq_false (by omega)
    subst ht2
    clear htt
    go_wp2_with fail
    go_meet
    case rel => exact ⟨rfl, rfl⟩
  case rest =>
   obtain ⟨rfl, rfl⟩ := hcut
   cases t with
   | true =>
     have hkK2 : k < q + 1 := of_decide_eq_true htt
     clear htt
     go_wp2_with fail
     go_roundg (q + 1 - k)
     case measure => omega
     case rel => exact ⟨k + 1, by go_num, by omega, by omega, by omega, rfl⟩
   | false =>
     have hkK2 : k = q + 1 := by have := of_decide_eq_false htt; omega
     subst hkK2
     clear htt
     have hJ0 := HJ.out W0 HBK.out
     go_wp2_with fail
     refine hJ0.mono ?_
     rintro e w2 ⟨rfl, rfl⟩
     go_wp2_with fail
     refine (HP.out _).mono ?_
     rintro e w3 ⟨pI, cI, rfl, hsl, hb3⟩
     have hb4 := below_then HBK.out hb3
     have hz3 := hb3.size
     have KW := HK.out.below hb3 (by omega)
     have f0 := KW.free 0
     have f1 := KW.free 1
     have f2 := KW.free 2
     have f3 := KW.free 3
     have f4 := KW.free 4
     obtain ⟨z0, z1, z2, z3, z4⟩ := KW.five
     have hlW := KW.lt
     have hsl1 : insS.sl (fun k => w.heap.size ≤ k ∧ k ≠ w.heap.size) w3 (.slice pI R.len cI) R := insS.sl_on hsl (Kept.mono fun k hk _ => by omega)
     have HSL := Lib.hid hsl1
     have HKW := Lib.hid KW
     clear hsl hsl1 hb3 KW
     go_wp2_with fail
     clear z0 z1 z2 z3 z4
     have KZ := (((((HKW.out.put 0 (.int .i64 2)).put 1 (.int .i64 0)).put 2 (.string ⟨#[]⟩)).put 3 (.slice pI R.len cI)).put 4 (.slice none 0 0))
     obtain ⟨z0, z1, z2, z3, z4⟩ := KZ.five
     exact bodyPost_ret (v := .tuple #[.agg #[.int .i64 2, .int .i64 0, .string ⟨#[]⟩, .slice pI R.len cI, .slice none 0 0], .int .i64 ((q + 1 : Nat) : Int)]) (by simp [results, Tryz.results38, go_sem, z0, z1, z2, z3, z4]) rfl
      ⟨2, 0, ⟨#[]⟩, R, .nil, .slice pI R.len cI, .slice none 0 0, rfl, rfl, insS.sl_on (insS.sl_on HSL.out ((((Kept.put (fun k hk => hk.2) 0 _).trans (Kept.put (fun k hk => hk.2) 1 _)).trans (Kept.put (fun k hk => hk.2) 2 _)).trans ((Kept.put (fun k hk => hk.2) 3 _).trans (Kept.put (fun k hk => hk.2) 4 _)))) (Kept.mono fun k hk _ => hk.1), blsS.sl_on (blsS.sl_on (q := fun k => w.heap.size ≤ k ∧ k ≠ w.heap.size) Sl.empty ((((Kept.put (fun k hk => hk.2) 0 _).trans (Kept.put (fun k hk => hk.2) 1 _)).trans (Kept.put (fun k hk => hk.2) 2 _)).trans ((Kept.put (fun k hk => hk.2) 3 _).trans (Kept.put (fun k hk => hk.2) 4 _)))) (Kept.mono fun k hk _ => hk.1), (((((hb4.setCell (p := ⟨w.heap.size, 0, none⟩) (Nat.le_refl _) _).setCell (p := ⟨w.heap.size, 1, none⟩) (Nat.le_refl _) _).setCell (p := ⟨w.heap.size, 2, none⟩) (Nat.le_refl _) _).setCell (p := ⟨w.heap.size, 3, none⟩) (Nat.le_refl _) _).setCell (p := ⟨w.heap.size, 4, none⟩) (Nat.le_refl _) _)⟩
theorem joinL_snoc : ∀ (l : List Line) (y : Line), l ≠ [] → joinL (l ++ [y]) = joinL l ++ [10] ++ y
 | [], y, h => absurd rfl h
 | [a], y, _ => rfl
 | a :: b :: r, y, _ => by
   have := joinL_snoc (b :: r) y (by simp)
   simp only [List.cons_append] at this ⊢
   rw [joinL, joinL, this]
   simp
theorem tot_drop1 : ∀ l : List Line, Blk.tot (l.map (·.drop 1)) ≤ Blk.tot l
 | [] => Nat.le_refl _
 | a :: r => by
   have := tot_drop1 r
   rw [List.map_cons, Blk.tot, Blk.tot, List.length_drop]
   omega
set_option maxRecDepth 10000 in
set_option maxHeartbeats 4000000 in
theorem rone_k5 (x : ByteArray) (l : List ByteArray) (p : Option Addr) (c : Nat) (w : World) (ht : Blk.tot (x.data.toList :: bl l) ≤ 1000000) (hv : SL w p c (x :: l)) (hk : kindL x.data.toList = 5) : OneR 6 x l p c w := by
 obtain ⟨b, o, rfl, hb, hc⟩ := hv.head
 have d0 := hc 0 x rfl
 rw [Nat.add_zero] at d0
 have hsh : Short (x :: l) := short_tot (by show Blk.tot (x.data.toList :: bl l) ≤ _; omega)
 have hcl := hv.1
 have hcm := hv.2.1
 unfold OneR
 rw [first5 _ hk]
 obtain ⟨hql, hq1, hq2⟩ := tw_lines (fun l => !(emptyL l) && codeL l) l
 have hbt := bl_tw (fun l => !(emptyL l) && codeL l) l
 obtain ⟨q, hq⟩ : ∃ q, q = ((bl l).takeWhile (fun l => !(emptyL l) && codeL l)).length := ⟨_, rfl⟩
 rw [← hq] at hql hq1 hq2 hbt
 obtain ⟨N, hN⟩ : ∃ N, N = l.length + 1 := ⟨_, rfl⟩
 have hll : (x :: l).length = N := by rw [hN, List.length_cons]
 have hlN : N ≤ 1000000 := by
  have h1 := Blk.len_tot (x.data.toList :: bl l)
  rw [List.length_cons, bl_length] at h1
  omega
 rw [hll] at hcl
 have hat : ∀ k, 1 ≤ k → k ≤ q + 1 → k < N → ∃ y : ByteArray, l[k - 1]? = some y ∧ y.size ≤ 100000000 ∧ (fun l => !(emptyL l) && codeL l) y.data.toList = decide (k < q + 1) := fun k h1 h2 h3 => by
  obtain ⟨y, hy⟩ : ∃ y, l[k - 1]? = some y := ⟨_, List.getElem?_eq_getElem (by omega)⟩
  refine ⟨y, hy, hsh y (List.mem_cons_of_mem _ (List.mem_of_getElem? hy)), ?_⟩
  by_cases hkq : k < q + 1
  ·rw [decide_eq_true hkq]; exact hq1 _ y (by omega) hy
  ·rw [decide_eq_false hkq]
   obtain rfl : k = q + 1 := by omega
   exact hq2 y hy
 have hcell : ∀ k (y : ByteArray), 1 ≤ k → l[k - 1]? = some y → w.cell? ⟨b, o + k, none⟩ = some (.string y) := fun k y h1 hy => hc k y (by
  obtain ⟨m, rfl⟩ : ∃ m, k = m + 1 := ⟨k - 1, by omega⟩
  exact hy)
 have hone : ∀ y : ByteArray, codeL y.data.toList = true → 1 ≤ y.size := fun y hy => by
  have hz : y.data.toList.length = y.size := by simp
  cases hl : y.data.toList with
  | nil => rw [hl] at hy; cases hy
  | cons a r => rw [hl] at hz; simp at hz; omega
 have hx1 : 1 ≤ x.size := hone x (kind5_code hk)
 obtain ⟨F, hF⟩ : ∃ F : Nat → Line, F = fun k => joinL ((x.data.toList :: (bl l).take k).map (·.drop 1)) := ⟨_, rfl⟩
 have hF0 : (x.extract 1 x.size).data.toList = F 0 := by rw [hF, Lib.extract_to_end]; rfl
 have hFs : ∀ k (y : ByteArray), l[k]? = some y → F (k + 1) = F k ++ [10] ++ (y.extract 1 y.size).data.toList := fun k y hy => by
  have h1 : (bl l)[k]? = some y.data.toList := by simp [bl, hy]
  rw [hF, Lib.extract_to_end]
  show joinL ((x.data.toList :: (bl l).take (k + 1)).map (·.drop 1)) = joinL ((x.data.toList :: (bl l).take k).map (·.drop 1)) ++ [10] ++ y.data.toList.drop 1
  rw [List.take_add_one, h1]
  have h2 := joinL_snoc ((x.data.toList :: (bl l).take k).map (·.drop 1)) (y.data.toList.drop 1) (by simp)
  rw [← h2]
  simp
 have hFl : ∀ k, (F k).length ≤ 1000000 := fun k => by
  have h1 := joinL_len ((x.data.toList :: (bl l).take k).map (·.drop 1))
  have h2 := Nat.le_trans h1 (tot_drop1 (x.data.toList :: (bl l).take k))
  have h3 := Blk.tot_take k (bl l)
  have h4 : Blk.tot (x.data.toList :: (bl l).take k) = x.data.toList.length + 1 + Blk.tot ((bl l).take k) := rfl
  rw [Blk.tot] at ht
  rw [hF]
  show (joinL ((x.data.toList :: (bl l).take k).map (·.drop 1))).length ≤ _
  omega
 have hFq : joinL ((x.data.toList :: (bl l).takeWhile fun l => !(emptyL l) && codeL l).map (·.drop 1)) = F q := by
  rw [hF, ← hbt, bl_take]
 rw [hFq, ← hq]
 have hfx : F = F := rfl
 rw [← hN]
 have HAT := Lib.hid hat
 have HCE := Lib.hid hcell
 have HONE := Lib.hid hone
 have HFS := Lib.hid hFs
 have HFL := Lib.hid hFl
 have HF0 := Lib.hid hF0
 have K := Known.made w 44 #[.int .i64 0, .int .i64 0, .string ⟨#[]⟩, .slice none 0 0, .slice none 0 0]
 have hbK := below_new0 w (.cells #[.int .i64 0, .int .i64 0, .string ⟨#[]⟩, .slice none 0 0, .slice none 0 0] 44)
 have hlk := K.lt
 have HK := Lib.hid K
 have d1 := (hbK.cell (p := ⟨b, o, none⟩) hb).trans d0
 have hb1 : b < (w.alloc (.cells #[.int .i64 0, .int .i64 0, .string ⟨#[]⟩, .slice none 0 0, .slice none 0 0] 44)).heap.size := Nat.lt_of_lt_of_le hb hbK.size
 have hx1i : (1 : Int) ≤ (x.size : Int) := by omega
 clear hat hcell hk hc hv hq hq1 hq2 hbt hll hsh ht hone hF hF0 hFs hFl hFq hfx d0
 go_enter Tryz.func38, Tryz.ntmps38
 go_wp2_with fail
 refine name_wb ?_
 intro W0 hW0
 rw [← hW0] at hbK hlk
 have hKK := HK.out
 rw [← hW0] at hKK
 have HK := Lib.hid hKK
 have hbz : b < W0.heap.size := Nat.lt_of_lt_of_le hb hbK.size
 have HBK := Lib.hid hbK
 clear hW0 hKK K hbK d1 hb1
 go_loopg [6, 9] (N + 1) (fun g s6 s9 wr => ∃ (k : Nat) (S : ByteArray), s6 = .int .i64 k ∧ s9 = .string S ∧ S.data.toList = F (k - 1) ∧ 1 ≤ k ∧ k ≤ q + 1 ∧ q + 1 < k + g ∧ W0 = wr)
 case atStart => exact ⟨1, _, rfl, rfl, HF0.out, by omega, by omega, by omega, rfl⟩
 case round =>
  obtain ⟨k, S, rfl, rfl, hS, hk1, hkq, hg, rfl⟩ := hrel
  have hSz : S.size ≤ 1000000 := by
   have h1 := HFL.out (k - 1)
   rw [← hS] at h1
   simpa using h1
  have HS := Lib.hid hS
  clear hS
  obtain ⟨t, htt⟩ : ∃ t : Bool, decide (k < q + 1) = t := ⟨_, rfl⟩
  go_upto_region 14 with fail
  go_cut [77] from 58 to 77 (fun s77 wc => s77 = .bool t ∧ W0 = wc)
  case first =>
   by_cases hkn : k < N
   ·have g2 : decide (k < N) = true := decide_eq_true hkn
    obtain ⟨y, hyl, hyz, hcmp⟩ := HAT.out k hk1 hkq hkn
    rw [htt] at hcmp
    have hA := fun W => rempty_any y W hyz
    have d1 := (HBK.out.cell (p := ⟨b, o + k, none⟩) hb).trans (HCE.out k y hk1 hyl)
    cases he : emptyL y.data.toList with
    | true =>
      simp only [he] at hA
      have ht2 : t = false := by rw [← hcmp, he]; rfl
      subst ht2
      have HA := Lib.hid hA
      clear htt hyl hcmp hA he
      go_wp2_with fail
      refine (HA.out _).mono ?_
      rintro e w1 ⟨rfl, rfl⟩
      go_wp2_with fail
      go_meet
      case rel => exact ⟨rfl, rfl⟩
    | false =>
      simp only [he] at hA hcmp
      have hcmp2 : codeL y.data.toList = t := by rw [← hcmp]; rfl
      cases hl : y.data.toList with
      | nil => rw [hl] at he; cases he
      | cons z r =>
        obtain ⟨h0, hz0⟩ := first_byte hl
        have e1 : ((z.toNat : Int) == 32) = t := by
         rw [← hcmp2, hl]
         exact u8_num z 32 (by decide)
        have HA := Lib.hid hA
        clear htt hyl hcmp hcmp2 hA he hl
        go_wp2_with fail
        refine (HA.out _).mono ?_
        rintro e w1 ⟨rfl, rfl⟩
        go_wp2_with fail
        go_meet
        case rel => exact ⟨rfl, rfl⟩
   ·have g2 : decide (k < N) = false := decide_eq_false hkn
    have ht2 : t = false := by rw [← htt]; exact decide_eq_false (by omega)
    subst ht2
    clear htt
    go_wp2_with fail
    go_meet
    case rel => exact ⟨rfl, rfl⟩
  case rest =>
   obtain ⟨rfl, rfl⟩ := hcut
   cases t with
   | true =>
     have hkK2 : k < q + 1 := of_decide_eq_true htt
     obtain ⟨y, hyl, hyz, hcmp⟩ := HAT.out k hk1 hkq (by omega)
     rw [htt] at hcmp
     have hy1 := HONE.out y (by
      cases hc : codeL y.data.toList with
      | true => rfl
      | false => rw [hc] at hcmp; simp at hcmp)
     have hy1i : (1 : Int) ≤ (y.size : Int) := by omega
     have d1 := (HBK.out.cell (p := ⟨b, o + k, none⟩) hb).trans (HCE.out k y hk1 hyl)
     have hnx := HFS.out (k - 1) y hyl
     rw [show k - 1 + 1 = k by omega, ← HS.out] at hnx
     have hkN : k < N := by omega
     have HNX := Lib.hid hnx
     clear htt hcmp hyl hnx
     go_wp2_with fail
     go_roundg (q + 1 - k)
     case measure => omega
     case rel => exact ⟨k + 1, _, by go_num, rfl, by rw [Nat.add_sub_cancel, HNX.out]; simp, by omega, by omega, by omega, rfl⟩
   | false =>
     have hkK2 : k = q + 1 := by have := of_decide_eq_false htt; omega
     subst hkK2
     clear htt
     have hS2 := HS.out
     rw [Nat.add_sub_cancel] at hS2
     have hD := fun W => rdecode_any S W (by omega)
     rw [hS2] at hD
     have HD := Lib.hid hD
     clear hS2 hD HS
     go_wp2_with fail
     refine (HD.out _).mono ?_
     rintro e w3 ⟨rfl, hb3⟩
     have hb4 := below_then HBK.out hb3
     have hz3 := hb3.size
     have KW := HK.out.below hb3 (by omega)
     have f0 := KW.free 0
     have f1 := KW.free 1
     have f2 := KW.free 2
     have f3 := KW.free 3
     have f4 := KW.free 4
     obtain ⟨z0, z1, z2, z3, z4⟩ := KW.five
     have hlW := KW.lt
     have HKW := Lib.hid KW
     clear hb3 KW
     go_wp2_with fail
     clear z0 z1 z2 z3 z4
     have KZ := (((((HKW.out.put 0 (.int .i64 6)).put 1 (.int .i64 0)).put 2 (.string ⟨(dec (F q)).toArray⟩)).put 3 (.slice none 0 0)).put 4 (.slice none 0 0))
     obtain ⟨z0, z1, z2, z3, z4⟩ := KZ.five
     exact bodyPost_ret (v := .tuple #[.agg #[.int .i64 6, .int .i64 0, .string ⟨(dec (F q)).toArray⟩, .slice none 0 0, .slice none 0 0], .int .i64 ((q + 1 : Nat) : Int)]) (by simp [results, Tryz.results38, go_sem, z0, z1, z2, z3, z4]) rfl
      ⟨6, 0, ⟨(dec (F q)).toArray⟩, .nil, .nil, .slice none 0 0, .slice none 0 0, rfl, rfl, insS.sl_on (insS.sl_on (q := fun k => w.heap.size ≤ k ∧ k ≠ w.heap.size) Sl.empty ((((Kept.put (fun k hk => hk.2) 0 _).trans (Kept.put (fun k hk => hk.2) 1 _)).trans (Kept.put (fun k hk => hk.2) 2 _)).trans ((Kept.put (fun k hk => hk.2) 3 _).trans (Kept.put (fun k hk => hk.2) 4 _)))) (Kept.mono fun k hk _ => hk.1), blsS.sl_on (blsS.sl_on (q := fun k => w.heap.size ≤ k ∧ k ≠ w.heap.size) Sl.empty ((((Kept.put (fun k hk => hk.2) 0 _).trans (Kept.put (fun k hk => hk.2) 1 _)).trans (Kept.put (fun k hk => hk.2) 2 _)).trans ((Kept.put (fun k hk => hk.2) 3 _).trans (Kept.put (fun k hk => hk.2) 4 _)))) (Kept.mono fun k hk _ => hk.1), (((((hb4.setCell (p := ⟨w.heap.size, 0, none⟩) (Nat.le_refl _) _).setCell (p := ⟨w.heap.size, 1, none⟩) (Nat.le_refl _) _).setCell (p := ⟨w.heap.size, 2, none⟩) (Nat.le_refl _) _).setCell (p := ⟨w.heap.size, 3, none⟩) (Nat.le_refl _) _).setCell (p := ⟨w.heap.size, 4, none⟩) (Nat.le_refl _) _)⟩
end Go.Proofs.YthieinfonomeeaaGreatDoor
namespace Go.Proofs.YthieinfonomeeaaGreatDoor
open Go.RowKit Doc Tit Inl Blk
set_option linter.unusedVariables false
attribute [local go_sem ↓] Go.wp_at_zero Go.wp_at_succ
theorem rone_any (x : ByteArray) (l : List ByteArray) (p : Option Addr) (c : Nat) (w : World) (ht : Blk.tot (x.data.toList :: bl l) ≤ 1000000) (hv : SL w p c (x :: l)) (h0 : kindL x.data.toList ≠ 0) (h4 : kindL x.data.toList ≠ 4) :
  OneR ((kindL x.data.toList + 1 : Nat) : Int) x l p c w := by
 have hs : x.size ≤ 100000000 := (short_tot (l := x :: l) (by show Blk.tot (x.data.toList :: bl l) ≤ _; omega)) x List.mem_cons_self
 have h6 := kindL_le x.data.toList
 obtain ⟨k, hk⟩ : ∃ k, kindL x.data.toList = k := ⟨_, rfl⟩
 rw [hk] at h0 h4 h6 ⊢
 match k, h0, h4, h6, hk with
 | 0, h0, _, _, _ => exact absurd rfl h0
 | 1, _, _, _, hk => exact rone_k1 x l p c w ht hv hk
 | 2, _, _, _, hk => exact rone_k2 x l p c w hs hv hk
 | 3, _, _, _, hk => exact rone_k3 x l p c w hk
 | 4, _, h4, _, _ => exact absurd rfl h4
 | 5, _, _, _, hk => exact rone_k5 x l p c w ht hv hk
 | 6, _, _, _, hk => exact rone_k6 x l p c w ht hv hk
set_option maxRecDepth 20000 in
set_option maxHeartbeats 4000000 in
theorem rbparse_any (s : ByteArray) (w : World) (hs : s.size ≤ 32768) : Calls Tryz.prog 14 #[.string s] w fun e w' => ∃ p c, e = .returned (.tuple #[.slice p (blocks s.data.toList).len c, .int .i64 0]) ∧
  blsS.sl (fun k => w.heap.size ≤ k) w' (.slice p (blocks s.data.toList).len c) (blocks s.data.toList) ∧ Below w.heap.size w w' := by
 have g1 : decide ((32768 : Int) < (s.size : Int)) = false := decide_eq_false (by omega)
 have hz : s.data.toList.length = s.size := by simp
 have hL := lines12_any s w (by omega)
 have htl : Blk.tot (lines s.data.toList) ≤ 1000000 := by
  show Blk.tot (spl 10 _) ≤ _
  rw [spl_tot]; omega
 rw [blocks_BL]
 obtain ⟨LS, hLS⟩ : ∃ LS, LS = lines s.data.toList := ⟨_, rfl⟩
 rw [← hLS] at hL htl ⊢
 have HL := Lib.hid hL
 clear hL hLS hz
 go_enter Tryz.func14, Tryz.ntmps14
 go_wp2_with fail
 refine HL.out.mono ?_
 rintro e W0 ⟨l, b, c, rfl, hbl, hsl, hbw, hbz, hb0⟩
 have hcap := hsl.1
 have hcm := hsl.2.1
 have hcc : ∀ (j : Nat) (x : ByteArray), l[j]? = some x → W0.cell? ⟨b, 0 + j, none⟩ = some (.string x) := fun j x hj => by
  have h0 : 0 < l.length := Nat.lt_of_le_of_lt (Nat.zero_le _) (List.getElem?_eq_some_iff.1 hj).1
  obtain ⟨b2, o2, e, _, h3⟩ := hsl.all h0
  injection e with e
  injection e with e1 e2 e3
  subst e1 e2
  exact h3 j x hj
 subst hbl
 have hnl := Blk.len_tot (bl l)
 rw [bl_length] at hnl
 have hsh : Short l := short_tot (by omega)
 obtain ⟨n, hn⟩ : ∃ n, n = l.length := ⟨_, rfl⟩
 rw [← hn] at hcap hnl ⊢
 have hn1 : n ≤ 1000000 := by omega
 have HN := Lib.hid hn
 have HTL := Lib.hid htl
 have HCC := Lib.hid hcc
 have HSH := Lib.hid hsh
 have HB0 := Lib.hid hb0
 clear hn htl hcc hsh hb0 hsl hbw HL hnl
 go_wp2_with fail
 go_loopg [4, 6] (n + 1) (fun g s4 s6 wr => ∃ (i : Nat) (D : Bls), s6 = .int .i64 i ∧ i ≤ n ∧ n < i + g ∧ D.app (BL (bl (l.drop i))) = BL (bl l) ∧ D.len ≤ i ∧ Below W0.heap.size W0 wr ∧ blsS.own 44 FF W0.heap.size wr s4 D)
 case atStart => exact ⟨0, .nil, rfl, by omega, by omega, rfl, Nat.le_refl _, Below.refl _ _, Shp.own.nil⟩
 case round =>
  obtain ⟨i, D, rfl, hin, hg, hD, hDl, hb, hown⟩ := hrel
  by_cases hi : i < n
  ·have g2 : decide (i < n) = true := decide_eq_true hi
   obtain ⟨x, hx⟩ : ∃ x, l[i]? = some x := ⟨_, List.getElem?_eq_getElem (by rw [← HN.out]; exact hi)⟩
   obtain ⟨r, hr⟩ : ∃ r, r = l.drop (i + 1) := ⟨_, rfl⟩
   have hdr : l.drop i = x :: r := by rw [hr, List.drop_eq_getElem_cons (by rw [← HN.out]; exact hi)]; congr 1; exact Option.some.inj ((List.getElem?_eq_getElem _).symm.trans hx)
   have hrl : r.length + 1 = n - i := by rw [hr, List.length_drop, ← HN.out]; omega
   have hxs := HSH.out x (List.mem_of_getElem? hx)
   have hz := hb.size
   have hbl2 : b < wr.heap.size := Nat.lt_of_lt_of_le hbz hz
   have hcell : ∀ (j : Nat) (y : ByteArray), l[j]? = some y → wr.cell? ⟨b, 0 + j, none⟩ = some (.string y) := fun j y hy => (hb.cell (p := ⟨b, 0 + j, none⟩) hbz).trans (HCC.out j y hy)
   have d0 := hcell i x hx
   rw [Nat.zero_add] at d0
   have htt : Blk.tot (x.data.toList :: bl r) ≤ 1000000 := by
    have h1 : bl (x :: r) = x.data.toList :: bl r := rfl
    rw [← h1, ← hdr, bl_drop]
    exact Nat.le_trans (Blk.tot_drop i _) HTL.out
   obtain ⟨hp1, hp2⟩ := firstB_pos x.data.toList (bl r)
   rw [List.length_cons, bl_length, hrl] at hp2
   have hcons : BL (bl (l.drop i)) = (firstB (x.data.toList :: bl r)).1.app (BL (bl (l.drop (i + (firstB (x.data.toList :: bl r)).2)))) := by
    rw [hdr]
    show BL (x.data.toList :: bl r) = _
    rw [BL_cons]
    congr 2
    rw [← List.drop_drop, hdr, bl_drop]; rfl
   rw [hcons] at hD
   have hsl : ∀ W, Below wr.heap.size wr W → SL W (some ⟨b, i, none⟩) (c - i) (x :: r) := fun W hW => by
    have h1 := SL.mid (Nat.lt_of_lt_of_le hbl2 hW.size) (fun j y hy => (hW.cell (p := ⟨b, 0 + j, none⟩) hbl2).trans (hcell j y hy)) (by rw [← HN.out]; exact hcap) hcm i n (by rw [← HN.out]; exact Nat.le_refl _)
    rw [Nat.zero_add, hdr, List.take_of_length_le (by rw [List.length_cons]; omega)] at h1
    exact h1
   have hF := fun W => rfirst_any x W hxs
   have HB := Lib.hid hb
   have HO := Lib.hid hown
   have HD := Lib.hid hD
   have HSL := Lib.hid hsl
   have hlt := hown.lt
   have HLT := Lib.hid hlt
   clear hb hown hD hsl hlt hcons hx hr
   by_cases hk0 : kindL x.data.toList = 0
   ·have hF0 : ∀ W, Calls Tryz.prog 35 #[.string x] W fun e w' => e = .returned (.int .i64 1) ∧ W = w' := fun W => (hF W).mono fun e w' h => by rw [hk0] at h; exact h
    have hf1 := first0 (bl r) hk0
    have hD2 := HD.out
    rw [hf1] at hD2
    have HD2 := Lib.hid hD2
    have HF := Lib.hid hF0
    clear hF hF0 hk0 hf1 hD2 HD hdr hcell htt
    go_wp2_with fail
    refine (HF.out _).mono ?_
    rintro e w2 ⟨rfl, rfl⟩
    go_wp2_with fail
    go_roundg (n - i)
    case measure => omega
    case rel => exact ⟨i + 1, D, by go_num, by omega, by omega, HD2.out, by omega, HB.out, HO.out⟩
   ·by_cases hk4 : kindL x.data.toList = 4
    ·have hF0 : ∀ W, Calls Tryz.prog 35 #[.string x] W fun e w' => e = .returned (.int .i64 5) ∧ W = w' := fun W => (hF W).mono fun e w' h => by rw [hk4] at h; exact h
     obtain ⟨hql, hq1, hq2⟩ := tw_lines listL r
     have hbt := bl_tw listL r
     have hf4 := first4 (bl r) hk4
     obtain ⟨q, hq⟩ : ∃ q, q = ((bl r).takeWhile listL).length := ⟨_, rfl⟩
     rw [← hq] at hql hq1 hq2 hbt hf4
     obtain ⟨K, hK⟩ : ∃ K, K = i + 1 + q := ⟨_, rfl⟩
     have hKn : K ≤ n := by omega
     have hxl := kind4_list hk4
     have hrj : ∀ j, (x :: r)[j]? = l[i + j]? := fun j => by rw [← hdr, List.getElem?_drop]
     have hat : ∀ k, i ≤ k → k ≤ K → k < n → ∃ y : ByteArray, l[k]? = some y ∧ listL y.data.toList = decide (k < K) := fun k h1 h2 h3 => by
      obtain ⟨y, hy⟩ : ∃ y, l[k]? = some y := ⟨_, List.getElem?_eq_getElem (by rw [← HN.out]; exact h3)⟩
      refine ⟨y, hy, ?_⟩
      have hy2 : (x :: r)[k - i]? = some y := by rw [hrj, show i + (k - i) = k by omega]; exact hy
      rcases Nat.eq_zero_or_pos (k - i) with h0 | h0
      ·rw [h0] at hy2
       have : x = y := by simpa using hy2
       rw [← this, hxl, decide_eq_true (by omega)]
      ·obtain ⟨m, hm⟩ : ∃ m, k - i = m + 1 := ⟨k - i - 1, by omega⟩
       rw [hm] at hy2
       have hy3 : r[m]? = some y := by simpa using hy2
       by_cases hkK : k < K
       ·rw [decide_eq_true hkK]; exact hq1 m y (by omega) hy3
       ·rw [decide_eq_false hkK]
        obtain rfl : m = q := by omega
        exact hq2 y hy3
     have hlt2 : (x :: r.take q).length = K - i := by rw [List.length_cons, List.length_take]; omega
     have hone : ∀ y ∈ x :: r.take q, listL y.data.toList = true := by
      intro y hy
      rcases List.mem_cons.1 hy with rfl | hy
      ·exact hxl
      ·have h1 : y.data.toList ∈ (bl r).takeWhile listL := by rw [← hbt]; exact List.mem_map.2 ⟨y, hy, rfl⟩
       exact List.all_eq_true.1 (List.all_takeWhile (p := listL) (l := bl r)) _ h1
     have hdeep : Deep 0 (IM (x :: r.take q)) := by rw [← IM_bt]; exact deep_items hone
     have hIM : IM (x :: r.take q) = (x.data.toList :: (bl r).takeWhile listL).map item := by
      show (bl (x :: r.take q)).map item = _
      rw [← hbt]; rfl
     have hsq : Short (x :: r.take q) := fun y hy => by
      rcases List.mem_cons.1 hy with rfl | hy
      ·exact hxs
      ·exact HSH.out y (List.mem_of_mem_drop (i := i) (by rw [hdr]; exact List.mem_cons_of_mem _ (List.mem_of_mem_take hy)))
     have hC : ∀ W, Below wr.heap.size wr W → Calls Tryz.prog 37 #[.slice (some ⟨b, i, none⟩) (K - i) (c - i), .int .i64 0] W fun e w' => ∃ p' c', e = .returned (.slice p' (LI 0 (IM (x :: r.take q))).len c') ∧ blsS.sl (fun k => W.heap.size ≤ k) w' (.slice p' (LI 0 (IM (x :: r.take q))).len c') (LI 0 (IM (x :: r.take q))) ∧ Below W.heap.size W w' := fun W hW => by
      have h1 := (HSL.out W hW).take (q + 1) (by rw [List.length_cons]; omega)
      rw [List.take_succ_cons] at h1
      have h2 := rlists_any (2 * sumD 0 (IM (x :: r.take q))) 0 (x :: r.take q) (some ⟨b, i, none⟩) (c - i) W (Nat.le_refl _) hdeep hsq (by omega) h1
      rw [hlt2] at h2
      exact h2
     have hLI : LI 0 (IM (x :: r.take q)) = lists 0 ((x.data.toList :: (bl r).takeWhile listL).map item) := by rw [← hIM]; exact (lists_eq hdeep).symm
     have hfl := firstB_len x.data.toList (bl r)
     obtain ⟨FB, hFB⟩ : ∃ FB, (firstB (x.data.toList :: bl r)).1 = FB := ⟨_, rfl⟩
     have hD2 := HD.out
     have e2 : (firstB (x.data.toList :: bl r)).2 = q + 1 := by rw [hf4]
     have e1 : LI 0 (IM (x :: r.take q)) = FB := by rw [hLI, ← hFB, hf4]
     rw [hFB, e2] at hfl hD2
     rw [show i + (q + 1) = K by omega] at hD2
     simp only [e1] at hC
     have hcell2 : ∀ (j : Nat) (y : ByteArray), l[j]? = some y → wr.cell? ⟨b, j, none⟩ = some (.string y) := fun j y hj => by
      have := hcell j y hj
      rwa [Nat.zero_add] at this
     have hiK : i + 1 ≤ K := by omega
     have hfK : FB.len ≤ K - i := by omega
     have HF := Lib.hid hF0
     have HAT := Lib.hid hat
     have HC := Lib.hid hC
     have HD2 := Lib.hid hD2
     have HCE := Lib.hid hcell2
     clear hF hF0 hat hC hD2 hcell2 HD hk0 hk4 hdr hcell htt hrj hlt2 hone hdeep hIM hsq hLI hfl hFB e1 e2 hxl hf4 hbt hq hq1 hq2 hql hK hp1 hp2 hrl
     obtain ⟨wo, hwo⟩ : ∃ wo, wo = wr := ⟨_, rfl⟩
     subst hwo
     obtain ⟨gO, hgO⟩ : ∃ gO, gO = gk := ⟨_, rfl⟩
     subst hgO
     go_wp2_with fail
     refine (HF.out _).mono ?_
     rintro e w2 ⟨rfl, rfl⟩
     go_wp2_with fail
     go_loopg [8] (n + 1) (fun g s8 wi => ∃ k : Nat, s8 = .int .i64 k ∧ i ≤ k ∧ k ≤ K ∧ K < k + g ∧ wo = wi)
     case atStart => exact ⟨i, rfl, Nat.le_refl _, by omega, by omega, rfl⟩
     case round =>
      obtain ⟨k, rfl, hik, hkK, hgk, rfl⟩ := hrel
      obtain ⟨t, htt⟩ : ∃ t : Bool, decide (k < K) = t := ⟨_, rfl⟩
      go_upto_region 12 with fail
      go_cut [42] from 32 to 42 (fun s42 wc => s42 = .bool t ∧ wo = wc)
      case first =>
       by_cases hkn : k < n
       ·have g3 : decide (k < n) = true := decide_eq_true hkn
        obtain ⟨y, hyl, hcmp⟩ := HAT.out k hik hkK hkn
        rw [htt] at hcmp
        have hA := fun W => rlisted_any y W
        rw [hcmp] at hA
        have d1 := HCE.out k y hyl
        have HA := Lib.hid hA
        clear htt hyl hcmp hA
        go_wp2_with fail
        refine (HA.out _).mono ?_
        rintro e w1 ⟨rfl, rfl⟩
        go_wp2_with fail
        go_meet
        case rel => exact ⟨rfl, rfl⟩
       ·have g3 : decide (k < n) = false := decide_eq_false hkn
        have ht2 : t = false := by rw [← htt]; exact decide_eq_false (by omega)
        subst ht2
        clear htt
        go_wp2_with fail
        go_meet
        case rel => exact ⟨rfl, rfl⟩
      case rest =>
       obtain ⟨rfl, rfl⟩ := hcut
       cases t with
       | true =>
         have hkK2 : k < K := of_decide_eq_true htt
         clear htt
         go_wp2_with fail
         go_roundg (K - k)
         case measure => omega
         case rel => exact ⟨k + 1, by go_num, by omega, by omega, by omega, rfl⟩
       | false =>
         have hkK2 : k = K := by have := of_decide_eq_false htt; omega
         subst hkK2
         clear htt
         have hC0 := HC.out wo (Below.refl _ _)
         go_wp2_with fail
         refine hC0.mono ?_
         rintro e w1 ⟨pF, cF, rfl, hsl, hb1⟩
         have hz1 := hb1.size
         have hO1 := HO.out.below hb1
         have hsr : blsS.src (Shp.kind FF W0.heap.size u4) w1 (.slice pF FB.len cF) FB := Shp.src_of (blsS.sl_on hsl (Kept.mono fun q hq _ => ⟨.inr (by omega), fun e => by have := (HLT.out q e).2; omega⟩))
         have hb2 := below_then HB.out hb1
         have HO1 := Lib.hid hO1
         have HSR := Lib.hid hsr
         have HB2 := Lib.hid hb2
         have hzB : W0.heap.size ≤ w1.heap.size := by omega
         clear hsl hb1 hO1 hsr hb2
         go_wp2_with (at_builtin; go_must (refine append_shp blsS tyB (L := D) (M := FB) _ rfl _ _ rfl HO1.out rfl HSR.out rfl (by show (D.len + FB.len) * 81 ≤ _; omega) hzB ?_); intro v' w5 hown' hgrow hbel hkd)
         have hbn := hbel W0 HB2.out
         have happ : (D.app FB).app (BL (bl (l.drop k))) = BL (bl l) := by rw [Bls.app_assoc]; exact HD2.out
         have hlen : (D.app FB).len ≤ k := by rw [Bls.len_app]; omega
         have HAPP := Lib.hid happ
         have HON := Lib.hid hown'
         have HBN := Lib.hid hbn
         clear hgrow hbel hkd happ hown' hbn
         go_wp2_with fail
         go_roundg (n - i)
         case measure => omega
         case rel => exact ⟨k, _, rfl, by omega, by omega, HAPP.out, hlen, HBN.out, HON.out⟩
    ·obtain ⟨m, hm⟩ : ∃ m : Nat, kindL x.data.toList + 1 = m := ⟨_, rfl⟩
     have hone := fun W hW => rone_any x r (some ⟨b, i, none⟩) (c - i) W htt (HSL.out W hW) hk0 hk4
     unfold OneR at hone
     simp only [hm, hrl] at hF hone
     have e1 : ((m : Int) == 1) = false := by
      rw [← hm]
      refine beq_eq_false_iff_ne.2 ?_
      omega
     have e5 : ((m : Int) == 5) = false := by
      rw [← hm]
      refine beq_eq_false_iff_ne.2 ?_
      omega
     obtain ⟨FB, hFB⟩ : ∃ FB, (firstB (x.data.toList :: bl r)).1 = FB := ⟨_, rfl⟩
     obtain ⟨q, hq⟩ : ∃ q, (firstB (x.data.toList :: bl r)).2 = q := ⟨_, rfl⟩
     simp only [hFB, hq] at hone
     have hD2 := HD.out
     rw [hFB, hq] at hD2
     rw [hq] at hp1 hp2
     have HF := Lib.hid hF
     have HONE := Lib.hid hone
     have HD2 := Lib.hid hD2
     clear hF hone hD2 hFB hq hk0 hk4 hm HD hdr hcell htt
     go_wp2_with fail
     refine (HF.out _).mono ?_
     rintro e w2 ⟨rfl, rfl⟩
     go_wp2_with fail
     refine (HONE.out _ (Below.refl _ _)).mono ?_
     rintro e w3 ⟨a, v, t, nn, kd, u, kv, rfl, hfb, hsu, hsk, hb3⟩
     obtain ⟨pu, cu, hu⟩ := Sl.form hsu
     obtain ⟨pk, ck, hkv⟩ := Sl.form hsk
     subst hu hkv
     have hz3 := hb3.size
     have K7 := Known.made w3 44 #[.int .i64 a, .int .i64 v, .string t, .slice pu (insS.len nn) cu, .slice pk (blsS.len kd) ck]
     obtain ⟨y0, y1, y2, y3, y4⟩ := K7.five
     have hl7 := K7.lt
     have hbA : Below wr.heap.size wr (w3.alloc (.cells #[.int .i64 a, .int .i64 v, .string t, .slice pu (insS.len nn) cu, .slice pk (blsS.len kd) ck] 44)) := below_then hb3 (below_new0 _ _)
     have hbA2 := below_then hbA (below_new0 _ (.cells #[.int .i64 a, .int .i64 v, .string t, .slice pu (insS.len nn) cu, .slice pk (blsS.len kd) ck] 44))
     have hoA := HO.out.below hbA2
     have hkm : Kept (fun k => wr.heap.size ≤ k) (Shp.kind FF W0.heap.size u4) w3 w3 := Kept.mono fun k hk _ => ⟨.inr (by omega), fun e => by have := (HLT.out k e).2; omega⟩
     have hsr : blsS.src (Shp.kind FF W0.heap.size u4) ((w3.alloc (.cells #[.int .i64 a, .int .i64 v, .string t, .slice pu (insS.len nn) cu, .slice pk (blsS.len kd) ck] 44)).alloc (.cells #[.int .i64 a, .int .i64 v, .string t, .slice pu (insS.len nn) cu, .slice pk (blsS.len kd) ck] 44)) (.slice (some ⟨w3.heap.size + 1, 0, none⟩) 1 1) (.cons a v t nn kd .nil) := by
      have h6 := src_bls (a := a) (l := v) (t := t) (ty := 44) (insS.sl_on (insS.sl_on hsu hkm) (Kept.alloc (.cells #[.int .i64 a, .int .i64 v, .string t, .slice pu (insS.len nn) cu, .slice pk (blsS.len kd) ck] 44))) (blsS.sl_on (blsS.sl_on hsk hkm) (Kept.alloc _))
      rw [World.size_alloc] at h6
      exact h6
     have hzW : W0.heap.size ≤ ((w3.alloc (.cells #[.int .i64 a, .int .i64 v, .string t, .slice pu (insS.len nn) cu, .slice pk (blsS.len kd) ck] 44)).alloc (.cells #[.int .i64 a, .int .i64 v, .string t, .slice pu (insS.len nn) cu, .slice pk (blsS.len kd) ck] 44)).heap.size := by rw [World.size_alloc, World.size_alloc]; omega
     have hbb := below_then HB.out hbA2
     have HSR := Lib.hid hsr
     have HOA := Lib.hid hoA
     have HBB := Lib.hid hbb
     have HFB := Lib.hid hfb
     have hdl : blsS.len D ≤ 1000000 := by show D.len ≤ _; omega
     clear hsu hsk hb3 K7 hbA hbA2 hoA hkm hsr hbb hfb
     go_wp2_with (at_builtin; go_must (refine append_shp blsS tyB _ rfl _ _ rfl HOA.out rfl HSR.out rfl (by show (blsS.len D + 1) * 81 ≤ _; omega) hzW ?_); intro v' w5 O5 hgrow hbel hkd)
     have hbn := hbel W0 HBB.out
     have happ : (D.app (.cons a v t nn kd .nil)).app (BL (bl (l.drop (i + q)))) = BL (bl l) := by rw [Bls.app_assoc, ← HFB.out]; exact HD2.out
     have hlen : (D.app (.cons a v t nn kd .nil)).len ≤ i + q := by
      rw [Bls.len_app]
      show D.len + 1 ≤ _
      omega
     have HAPP := Lib.hid happ
     have HO5 := Lib.hid O5
     have HBN := Lib.hid hbn
     clear happ O5 hbn hgrow hbel hkd
     go_wp2_with fail
     go_roundg (n - i)
     case measure => omega
     case rel => exact ⟨i + q, _, by go_num, by omega, by omega, HAPP.out, hlen, HBN.out, HO5.out⟩
  ·have hie : i = n := by omega
   have g2 : decide (i < n) = false := decide_eq_false hi
   have hD2 : D = BL (bl l) := by
    rw [← hD, List.drop_of_length_le (by rw [← HN.out]; omega)]
    exact (Bls.app_nil D).symm
   obtain ⟨p', c', hvv⟩ := hown.form
   have h3 := hown.sl
   rw [hvv] at h3
   subst hvv
   subst hD2
   have hbw := below_then HB0.out hb
   have hz0 := HB0.out.size
   have h4 := blsS.sl_on h3 (q' := fun k => w.heap.size ≤ k) (Kept.mono fun k hk _ => by rcases hk with h | h; exact h.elim; omega)
   have H4 := Lib.hid h4
   clear hown hD h3 h4
   go_wp2_with fail
   exact bodyPost_ret (v := .tuple #[.slice p' (BL (bl l)).len c', .int .i64 0]) (by simp [results, Tryz.results14, go_sem]; rfl) rfl ⟨p', c', rfl, H4.out, hbw⟩
end Go.Proofs.YthieinfonomeeaaGreatDoor
