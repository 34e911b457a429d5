/-
  The claim's own texts, packed. Conditions: those typed in each theorem.
-/
import Derived.Test.YthieinfonomeeaaGreatDoorZRad
import Derived.Test.YthieinfonomeeaaGreatDoorZAae
namespace Go.Proofs.YthieinfonomeeaaGreatDoor
open Go.RowKit Doc Tit Inl Blk
set_option linter.unusedVariables false
attribute [local go_sem ↓] Go.wp_at_zero Go.wp_at_succ
theorem occ_pre (l t : List UInt8) (f j : Nat) : Lib.occAt (l.drop f) t j = Lib.hasPrefix (l.drop (f + j)) t := by
 unfold Lib.occAt Lib.hasPrefix
 rw [List.drop_drop]
def AllIn (l t : List UInt8) (Q : List Nat) (f : Nat) : Prop := ∀ p, f ≤ p → Lib.hasPrefix (l.drop p) t = true → p ∈ Q
theorem AllIn.skip {l t : List UInt8} {q : Nat} {Q : List Nat} {f : Nat} (h : AllIn l t (q :: Q) f) (hq : ¬ (f ≤ q ∧ Lib.hasPrefix (l.drop q) t = true)) : AllIn l t Q f := fun p h1 h2 => by
 rcases List.mem_cons.1 (h p h1 h2) with rfl | h3
 ·exact absurd ⟨h1, h2⟩ hq
 ·exact h3
theorem AllIn.next {l t : List UInt8} {q : Nat} {Q : List Nat} {f : Nat} (h : AllIn l t (q :: Q) f) (hq : f ≤ q) (ht : 1 ≤ t.length) : AllIn l t Q (q + t.length) := fun p h1 h2 => by
 rcases List.mem_cons.1 (h p (by omega) h2) with rfl | h3
 ·omega
 ·exact h3
theorem index_least {l t : List UInt8} {q : Nat} {Q : List Nat} {f : Nat} (h : AllIn l t (q :: Q) f) (hs : (q :: Q).Pairwise (· < ·)) (hq : f ≤ q) (hp : Lib.hasPrefix (l.drop q) t = true) (ht : 1 ≤ t.length) : Lib.index (l.drop f) t = (q - f : Nat) := by
 refine Lib.index_first ?_ ?_ fun j hj => ?_
 ·have := pre_le hp ht
  rw [List.length_drop]; omega
 ·rw [occ_pre, show f + (q - f) = q by omega]; exact hp
 ·rw [occ_pre]
  cases hc : Lib.hasPrefix (l.drop (f + j)) t with
  | false => rfl
  | true =>
    rcases List.mem_cons.1 (h (f + j) (by omega) hc) with e | h3
    ·omega
    ·have := (List.pairwise_cons.1 hs).1 _ h3
     omega
theorem index_none {l t : List UInt8} {f : Nat} (h : AllIn l t [] f) (ht : t ≠ []) : Lib.index (l.drop f) t = -1 := by
 refine Lib.index_past (i := (l.drop f).length + 1) ht (fun j hj => ?_) ?_
 ·rw [occ_pre]
  cases hc : Lib.hasPrefix (l.drop (f + j)) t with
  | false => rfl
  | true => exact absurd (h (f + j) (by omega) hc) (by simp)
 ·omega
theorem div_spl2 (a : UInt8) (l : List UInt8) : ∀ (Q : List Nat) (f : Nat), Q.Pairwise (· < ·) → AllIn l [a, a] Q f → divL l [a, a] (occL l [a, a] Q f) f = spl2 a (l.drop f)
 | [], f, _, h => by
   rw [spl2_none a (l.drop f) (index_none h (by simp))]
   rfl
 | q :: Q, f, hs, h => by
   rw [occL]
   by_cases hc : f ≤ q ∧ Lib.hasPrefix (l.drop q) [a, a] = true
   ·rw [if_pos hc, divL]
    have hi := index_least h hs hc.1 hc.2 (by simp)
    rw [spl2_some a (l.drop f) (q - f) hi]
    rw [div_spl2 a l Q (q + [a, a].length) (List.pairwise_cons.1 hs).2 (h.next hc.1 (by simp))]
    rw [List.drop_drop, show f + (q - f + 2) = q + [a, a].length by simp; omega, List.drop_take]
   ·rw [if_neg hc]
    exact div_spl2 a l Q f (List.pairwise_cons.1 hs).2 (h.skip hc)
theorem div_pairs (a : UInt8) (ha : a.toNat < 128) (s : ByteArray) : divL s.data.toList [a, a] (occL s.data.toList [a, a] (stL s) 0) 0 = spl2 a s.data.toList := by
 have h := div_spl2 a s.data.toList (stL s) 0 (stL_sorted s) (fun p _ hp => by
  have h1 := pre_le hp (by simp)
  have hz : s.data.toList.length = s.size := by simp
  simp only [List.length_cons, List.length_nil] at h1
  refine ascii_st (show p < s.size by omega) ?_
  have h2 := drop_byte s p (by omega)
  rw [h2, hp_cons] at hp
  rw [Bool.and_eq_true] at hp
  have h3 : a = s[p] := by simpa using hp.1
  rw [← h3]; exact ha)
 rwa [List.drop_zero] at h
set_option maxRecDepth 10000 in
set_option maxHeartbeats 2000000 in
theorem rdivide_any (s t : ByteArray) (w : World) (hs : s.size ≤ 100000000) (ht : t.size ≤ 100000000) (ht1 : 1 ≤ t.size) : Calls Tryz.prog 108 #[.string s, .string t] w fun e w' => ∃ (l : List ByteArray) (p : Option Addr) (c : Nat), e = .returned (.slice p l.length c) ∧
  bl l = divL s.data.toList t.data.toList (occL s.data.toList t.data.toList (stL s) 0) 0 ∧ txS.sl (fun k => w.heap.size ≤ k) w' (.slice p l.length c) l ∧ Below w.heap.size w w' := by
 have hO := rocc_any s t w hs ht ht1
 have htl : t.data.toList.length = t.size := by simp
 have hsl : s.data.toList.length = s.size := by simp
 have hbd := occL_at s.data.toList t.data.toList (by omega) (stL s) 0
 have hol := occL_len s.data.toList t.data.toList (stL s) 0
 have hstl := stL_len s
 have hxd := fun i j => Lib.extract_data s i j
 obtain ⟨l, hl⟩ : ∃ l, l = s.data.toList := ⟨_, rfl⟩
 obtain ⟨u, hu⟩ : ∃ u, u = t.data.toList := ⟨_, rfl⟩
 rw [← hl, ← hu] at hO hbd hol ⊢
 rw [← hu] at htl
 obtain ⟨Q, hQ⟩ : ∃ Q, Q = occL l u (stL s) 0 := ⟨_, rfl⟩
 rw [← hQ] at hO hbd hol ⊢
 obtain ⟨n, hn⟩ : ∃ n, n = Q.length := ⟨_, rfl⟩
 rw [← hn] at hO hol
 have hnn : n ≤ 100000001 := by omega
 have hord : ∀ (k x y : Nat), Q[k]? = some x → Q[k + 1]? = some y → x + u.length ≤ y := by
  have hg : ∀ (Z : List Nat) (e : Nat) (k x y : Nat), (occL l u Z e)[k]? = some x → (occL l u Z e)[k + 1]? = some y → x + u.length ≤ y := by
   intro Z
   induction Z with
   | nil => intro e k x y h; simp [occL] at h
   | cons q Z ih =>
     intro e k x y h1 h2
     rw [occL] at h1 h2
     split at h1
     ·rename_i hc
      rw [if_pos hc] at h2
      cases k with
      | zero =>
        simp at h1 h2
        subst h1
        exact (occL_at l u (by omega) Z _ y (List.mem_of_getElem? h2)).1
      | succ k =>
        exact ih _ k x y (by simpa using h1) (by simpa using h2)
     ·rename_i hc
      rw [if_neg hc] at h2
      exact ih _ k x y h1 h2
  rw [hQ]; exact hg _ _
 have HO := Lib.hid hO
 have HBD := Lib.hid hbd
 have HORD := Lib.hid hord
 have HN := Lib.hid hn
 have HXD : Hid (∀ i j, (s.extract i j).data.toList = (l.take j).drop i) := Lib.hid (fun i j => by rw [hl, ByteArray.data_extract, Array.toList_extract, List.drop_take])
 have HUL := Lib.hid htl
 have HSZ : Hid (l.length = s.size) := Lib.hid (by rw [hl]; exact hsl)
 clear hO hbd hord hol hstl hxd hn hQ hl hu htl hsl
 go_enter Tryz.func108, Tryz.ntmps108
 go_wp2_with fail
 refine HO.out.mono ?_
 rintro e w1 ⟨p, c, rfl, hns, hb1⟩
 have hcap := hns.1
 rw [← HN.out] at hcap
 have HNS := Lib.hid hns
 have HB1 := Lib.hid hb1
 clear hns hb1 HO
 go_wp2_with fail
 go_loopg [5, 7, 8] (n + 1) (fun g s5 s7 s8 wr => ∃ (k f : Nat) (P : List ByteArray), s8 = .int .i64 k ∧ s7 = .int .i64 f ∧ k ≤ n ∧ n < k + g ∧ f ≤ s.size ∧ (∀ x, Q[k]? = some x → f ≤ x) ∧ P.length ≤ k ∧ bl P ++ divL l u (Q.drop k) f = divL l u Q 0 ∧ txS.own 9 (fun _ => False) w1.heap.size wr s5 P ∧ Below w1.heap.size w1 wr)
 case atStart => exact ⟨0, 0, [], rfl, rfl, by omega, by omega, by omega, fun _ _ => Nat.zero_le _, Nat.le_refl _, rfl, Shp.own.nil, Below.refl _ _⟩
 case round =>
  obtain ⟨k, f, P, rfl, rfl, hkn, hg, hf, hfx, hPk, hPP, hown, hb⟩ := hrel
  have hlenP : txS.len P = P.length := rfl
  have HPP := Lib.hid hPP
  have HB := Lib.hid hb
  have HOW := Lib.hid hown
  have HFX := Lib.hid hfx
  clear hPP hown hfx
  by_cases hk : k < n
  ·obtain ⟨x, hx⟩ : ∃ x, Q[k]? = some x := ⟨_, List.getElem?_eq_getElem (by rw [← HN.out]; exact hk)⟩
   obtain ⟨b, o, rfl, hbl, hcc⟩ := HNS.out.all (by rw [← HN.out]; omega)
   have hfx := HFX.out x hx
   have hxb := HBD.out x (List.mem_of_getElem? hx)
   have hxs : x + t.size ≤ s.size := by
    have := hxb.2.1
    have h1 := HUL.out
    have h2 := HSZ.out
    omega
   have d0 := (hb.cell (p := ⟨b, o + k, none⟩) hbl).trans (hcc k x hx)
   have hbl2 : b < wr.heap.size := Nat.lt_of_lt_of_le hbl hb.size
   have g1 : decide (k < n) = true := decide_eq_true hk
   have hdk : Q.drop k = x :: Q.drop (k + 1) := by
    rw [List.drop_eq_getElem_cons (by rw [← HN.out]; exact hk)]
    congr 1
    exact Option.some.inj ((List.getElem?_eq_getElem _).symm.trans hx)
   have hpp := HPP.out
   rw [hdk, divL] at hpp
   obtain ⟨T, hT⟩ : ∃ T, T = s.extract f x := ⟨_, rfl⟩
   have hTd : T.data.toList = (l.take x).drop f := by rw [hT, HXD.out]
   have hpp2 : bl (P ++ [T]) ++ divL l u (Q.drop (k + 1)) (x + u.length) = divL l u Q 0 := by
    rw [← hpp, ← hTd]; simp [bl]
   rw [HUL.out] at hpp2
   have HP2 := Lib.hid hpp2
   have hfn : ∀ y, Q[k + 1]? = some y → x + t.size ≤ y := fun y hy => by
    have := HORD.out k x y hx hy
    rw [HUL.out] at this
    exact this
   have HFN := Lib.hid hfn
   have hoA := HOW.out.below (below_new0 wr (.cells #[.string T] 9))
   have HOA := Lib.hid hoA
   have hT2 : s.extract f x = T := hT.symm
   have hzW : w1.heap.size ≤ (wr.alloc (.cells #[.string T] 9)).heap.size := by rw [World.size_alloc]; have := hb.size; omega
   clear hpp hpp2 hdk hx hcc hxb hoA hT hTd hfn HPP HFX hb HOW
   go_wp2_with (at_builtin; go_must (refine append_shp txS tyT _ rfl _ _ rfl HOA.out rfl (src_tx (s := T)) rfl (by rw [hlenP]; show (P.length + 1) * 17 ≤ _; omega) hzW ?_); intro v' w4 O4 hgrow hbel hkd; have hbn := hbel w1 (below_then HB.out (below_new0 _ _)); have d4 := (hbn.cell (p := ⟨b, o + k, none⟩) hbl).trans ((HB.out.cell (p := ⟨b, o + k, none⟩) hbl).symm.trans d0); have hbl4 : b < w4.heap.size := Nat.lt_of_lt_of_le hbl hbn.size)
   have O5 : txS.own 9 (fun _ => False) w1.heap.size w4 v' (P ++ [T]) := O4
   clear hgrow hbel hkd O4
   go_roundg (n - k)
   case measure => omega
   case rel => exact ⟨k + 1, x + t.size, P ++ [T], by go_num, by go_num, by omega, by omega, by omega, HFN.out, by rw [List.length_append]; show P.length + 1 ≤ _; omega, HP2.out, O5, hbn⟩
  ·have hke : k = n := by omega
   have g1 : decide (k < n) = false := decide_eq_false hk
   have hpp := HPP.out
   rw [List.drop_eq_nil_of_le (by rw [← HN.out]; omega)] at hpp
   obtain ⟨T, hT⟩ : ∃ T, T = s.extract f s.size := ⟨_, rfl⟩
   have hTd : T.data.toList = l.drop f := by rw [hT, HXD.out, List.take_of_length_le (by rw [HSZ.out]; exact Nat.le_refl _)]
   have hfin : bl (P ++ [T]) = divL l u Q 0 := by
    rw [← hpp]
    show _ = bl P ++ [l.drop f]
    rw [← hTd]; simp [bl]
   have HF := Lib.hid hfin
   have hoA := HOW.out.below (below_new0 wr (.cells #[.string T] 9))
   have HOA := Lib.hid hoA
   have hT2 : s.extract f s.size = T := hT.symm
   have hzW : w1.heap.size ≤ (wr.alloc (.cells #[.string T] 9)).heap.size := by rw [World.size_alloc]; have := hb.size; omega
   have hlen3 : txS.len (P ++ [T]) = P.length + 1 := by show (P ++ [T]).length = _; rw [List.length_append]; rfl
   have hbb := below_then HB1.out HB.out
   have HBB := Lib.hid hbb
   clear hpp hfin hoA hT hTd hb HPP HOW HFX hbb
   go_wp2_with (at_builtin; go_must (refine append_shp txS tyT _ rfl _ _ rfl HOA.out rfl (src_tx (s := T)) rfl (by rw [hlenP]; show (P.length + 1) * 17 ≤ _; omega) hzW ?_); intro v' w4 O4 hgrow hbel hkd)
   have hbn : Below w.heap.size w w4 := below_then HB1.out (hbel w1 (below_then HB.out (below_new0 _ _)))
   have O5 : txS.own 9 (fun _ => False) w1.heap.size w4 v' (P ++ [T]) := O4
   obtain ⟨p', c', hvv⟩ := O5.form
   rw [hlen3] at hvv
   subst hvv
   have h4 : txS.sl (fun k => w.heap.size ≤ k) w4 (.slice p' (P ++ [T]).length c') (P ++ [T]) := by
    have := O5.sl
    have e : (P ++ [T]).length = P.length + 1 := hlen3
    rw [e]
    have hzz := HB1.out.size
    exact txS.sl_on this (Kept.mono fun k hk _ => by rcases hk with h | h; exact h.elim; omega)
   have H4 := Lib.hid h4
   clear O4 O5 hgrow hbel hkd h4
   go_wp2_with fail
   go_ret
   exact ⟨P ++ [T], p', c', by show Ending.returned (.slice _ (P.length + 1) _) = .returned (.slice _ (P ++ [T]).length _); rw [show (P ++ [T]).length = P.length + 1 from hlen3], HF.out, H4.out, hbn⟩
end Go.Proofs.YthieinfonomeeaaGreatDoor
