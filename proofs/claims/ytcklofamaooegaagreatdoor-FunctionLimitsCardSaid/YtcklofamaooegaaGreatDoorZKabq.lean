/-
  The claim's own texts, packed. Conditions: those typed in each theorem.
-/
import Derived.Test.YtcklofamaooegaaGreatDoorZKabp
import Derived.Test.YtcklofamaooegaaGreatDoorZKaat
import Derived.Shelf.Strings.SlTrimAscii
import Derived.Test.YtcklofamaooegaaGreatDoorZKabo
set_option maxHeartbeats 4000000
set_option maxRecDepth 10000
set_option linter.unusedVariables false
namespace Go.Proofs.YtcklofamaooegaaGreatDoor
open Go.RowKit
attribute [local go_sem ↓] Go.wp_at_zero Go.wp_at_succ
theorem dropN_at {Q : List Nat} {i q : Nat} (h : Q[i]? = some q) : Q.drop i = q :: Q.drop (i + 1) := by
 obtain ⟨hl, e⟩ := List.getElem?_eq_some_iff.1 h
 rw [List.drop_eq_getElem_cons hl, e]
theorem sall_any (s t : ByteArray) (w : World) (hs : s.size ≤ 100000000) (ht : t.size ≤ 100000000) (hm : MX w) :
  Calls Tryz.prog 136 #[.string s, .string t] w fun e w' => ∃ p c, e = .returned (.slice p (occS s t).length c) ∧ NSL w' p c (occS s t) ∧ Below w.heap.size w w' := by
 by_cases ht0 : t.size = 0
 ·have ht1 : t = ⟨#[]⟩ := bytes_ext (List.length_eq_zero_iff.1 (by have : t.data.toList.length = t.size := (by simp); omega))
  have ho : occS s t = [] := by unfold occS; rw [if_pos ht0]
  rw [ho]
  subst ht1
  clear ho ht0
  go_enter Tryz.func136, Tryz.ntmps136
  go_wp2_with fail
  go_ret
  exact ⟨none, 0, rfl, ⟨Nat.le_refl _, by decide, .inl rfl⟩, Below.refl _ _⟩
 ·have ho : occS s t = occL s.data.toList t.data.toList (stL s) 0 := by unfold occS; rw [if_neg ht0]
  rw [ho]
  have hte : t.toList.isEmpty = false := by
   cases hl : t.data.toList with
   | nil => exfalso; have : t.data.toList.length = t.size := (by simp); rw [hl] at this; exact ht0 this.symm
   | cons c r => exact isEmpty_cons hl
  have hO := soffsets_any s w hs
  have HM := Lib.hid hm
  have hol := occL_len s.data.toList t.data.toList (stL s) 0
  have hsl := stL_len s
  have htl : t.data.toList.length = t.size := by simp
  obtain ⟨n, hn⟩ : ∃ n, n = (stL s).length := ⟨_, rfl⟩
  obtain ⟨l, hl⟩ : ∃ l, l = s.data.toList := ⟨_, rfl⟩
  obtain ⟨u, hu⟩ : ∃ u, u = t.data.toList := ⟨_, rfl⟩
  have hfd : ∀ i, fndN s t i = match fndL l u ((stL s).drop i) with | some k => ((i + k : Nat) : Int) | none => -1 := fun i => by rw [hl, hu]; rfl
  rw [← hl, ← hu] at hol ⊢
  rw [← hu] at htl
  have HFD := Lib.hid hfd
  have HTL := Lib.hid htl
  have HN := Lib.hid hn
  rw [← hn] at hO hsl
  have HOL := Lib.hid hol
  clear hm ho hn hl hu hfd htl hol
  go_enter Tryz.func136, Tryz.ntmps136
  go_wp2_with fail
  refine hO.mono ?_
  rintro e w1 ⟨p, c, rfl, hNS, hb⟩
  have hm1 := HM.out.below hb
  have hC := fun i (hi : i ≤ 9223372036854775807) W (hW : Below w1.heap.size w1 W) => socc_any s t p c i W hs ht hi (hm1.below hW) (hNS.below hW)
  rw [← HN.out] at hC
  have HC := Lib.hid hC
  have HNS := Lib.hid hNS
  have HB := Lib.hid hb
  have hcap := hNS.1
  rw [← HN.out] at hcap
  clear hC hNS hb hO hm1
  have hC0 := HC.out 0 (by omega) w1 (Below.refl _ _)
  have HC0 := Lib.hid hC0
  clear hC0
  go_wp2_with fail
  refine HC0.out.mono ?_
  rintro e w2 ⟨rfl, rfl⟩
  go_wp2_with fail
  go_loopg [5, 7] (n + 1) (fun g s5 s7 wr => ∃ (j e : Nat) (P : List Nat), s7 = .int .i64 (fndN s t j) ∧ j ≤ n ∧ n < j + g ∧ P ++ occL l u ((stL s).drop j) e = occL l u (stL s) 0 ∧ (∀ q ∈ (stL s).drop j, e ≤ q) ∧ nS.own 3 (fun _ => False) w1.heap.size wr s5 P ∧ Below w1.heap.size w1 wr)
  case atStart => exact ⟨0, 0, [], rfl, by omega, by omega, rfl, (fun q _ => Nat.zero_le _), Shp.own.nil, Below.refl _ _⟩
  case round =>
   obtain ⟨j, e0, P, rfl, hj, hg, hP, hlow, hown, hb⟩ := hrel
   have hlenP : nS.len P = P.length := rfl
   cases hF : fndL l u ((stL s).drop j) with
   | none =>
     have hv : fndN s t j = -1 := by rw [HFD.out, hF]
     have hno := fndL_none _ hF
     have hPP : P = occL l u (stL s) 0 := by
      rw [← hP, occL_skip ((stL s).drop j) e0 ((stL s).drop j).length (fun m q _ hq h => by
       have := hno q (List.mem_of_getElem? hq)
       rw [this] at h; cases h.2), List.drop_of_length_le (Nat.le_refl _)]
      simp [occL]
     rw [hv]
     obtain ⟨p', c', hvv⟩ := hown.form
     replace hvv : u5 = .slice p' P.length c' := hvv
     have h4 := hown.sl
     rw [hvv] at h4
     have h5 := NSL.of_sl h4
     subst hvv
     have hbw := below_then HB.out hb
     have H5 := Lib.hid h5
     have HPP := Lib.hid hPP
     clear hown h4 h5 hP hPP hno hF hlow hb hv
     go_wp2_with fail
     go_ret
     exact ⟨p', c', by rw [← HPP.out]; rfl, by rw [← HPP.out]; exact H5.out, hbw⟩
   | some k =>
     obtain ⟨q, hq, hp, hmin⟩ := fndL_some _ k hF
     rw [List.getElem?_drop] at hq
     have hv : fndN s t j = ((j + k : Nat) : Int) := by rw [HFD.out, hF]
     obtain ⟨i, hi⟩ : ∃ i, i = j + k := ⟨_, rfl⟩
     rw [← hi] at hv hq
     have hin : i < n := by rw [HN.out]; exact (List.getElem?_eq_some_iff.1 hq).1
     have hqs := stL_le (List.mem_of_getElem? hq)
     have hqe : e0 ≤ q := hlow q (List.mem_iff_getElem?.2 ⟨k, by rw [List.getElem?_drop, ← hi]; exact hq⟩)
     have hstep : ∀ i2, i + 1 ≤ i2 → (∀ m q', i ≤ m → m < i2 → (stL s)[m]? = some q' → q' < q + t.size) → (P ++ [q]) ++ occL l u ((stL s).drop i2) (q + t.size) = occL l u (stL s) 0 := fun i2 h1 h2 => by
      rw [← hP, occL_skip ((stL s).drop j) e0 k (fun m q' hm hq' h => by rw [hmin m q' hm hq'] at h; cases h.2), List.drop_drop, ← hi, dropN_at hq, occL, if_pos ⟨hqe, hp⟩, HTL.out,
       occL_skip ((stL s).drop (i + 1)) (q + t.size) (i2 - (i + 1)) (fun m q' hm hq' h => by
        rw [List.getElem?_drop] at hq'
        have := h2 (i + 1 + m) q' (by omega) (by omega) hq'
        omega), List.drop_drop, show i + 1 + (i2 - (i + 1)) = i2 by omega]
      simp
     obtain ⟨b, o, rfl, hbl, hcc⟩ := HNS.out.all (by rw [← HN.out]; omega)
     have HCC := Lib.hid hcc
     have d0 := (hb.cell (p := ⟨b, o + i, none⟩) hbl).trans (hcc _ _ hq)
     have hbl2 : b < wr.heap.size := Nat.lt_of_lt_of_le hbl hb.size
     have hoA := hown.below (below_new0 wr (.cells #[.int .i64 (q : Int)] 3))
     have hPl : P.length ≤ n := by
      have h1 := congrArg List.length hP
      rw [List.length_append] at h1
      have := HOL.out
      rw [← HN.out] at this
      omega
     have HOA := Lib.hid hoA
     have hzW : w1.heap.size ≤ (wr.alloc (.cells #[.int .i64 (q : Int)] 3)).heap.size := by rw [World.size_alloc]; have := hb.size; omega
     have hij : j ≤ i := by omega
     have HST := Lib.hid hstep
     have HB2 := Lib.hid hb
     have HQ := Lib.hid hq
     rw [hv]
     clear hF hq hp hmin hv hi hqe hstep hcc hoA hP hlow hown hb
     obtain ⟨gO, hgO⟩ : ∃ gO, gO = gk := ⟨_, rfl⟩
     subst hgO
     go_wp2_with (at_builtin; go_must (refine append_shp nS tyN _ rfl _ _ rfl HOA.out rfl (src_n (n := q)) rfl (by rw [hlenP]; show (P.length + 1) * 9 ≤ _; omega) hzW ?_); intro v' w5 O5 hgrow hbel hkd; have hbn : Below w1.heap.size w1 w5 := hbel w1 (below_then HB2.out (below_new0 _ _)); have d5 := (hbn.cell (p := ⟨b, o + i, none⟩) hbl).trans (HCC.out _ _ HQ.out); have hbl5 : b < w5.heap.size := Nat.lt_of_lt_of_le hbl hbn.size)
     have O6 : nS.own 3 (fun _ => False) w1.heap.size w5 v' (P ++ [q]) := O5
     have HO6 := Lib.hid O6
     have HBN := Lib.hid hbn
     clear O5 O6 hgrow hbel hkd d0 hbn
     have hte1 : 1 ≤ t.size := by omega
     go_loopg [7] (n + 1) (fun g s7 wq => ∃ i2 : Nat, s7 = .int .i64 i2 ∧ i ≤ i2 ∧ i2 ≤ n ∧ n < i2 + g ∧ (∀ m q', i ≤ m → m < i2 → (stL s)[m]? = some q' → q' < q + t.size) ∧ w5 = wq)
     case atStart => exact ⟨i, rfl, Nat.le_refl _, by omega, by omega, (fun m q' h1 h2 => by omega), rfl⟩
     case round =>
      obtain ⟨i2, rfl, hi2, hi2n, hg2, hall, rfl⟩ := hrel
      have HALL := Lib.hid hall
      clear hall
      obtain ⟨tt, htt⟩ : ∃ tt : Bool, tt = (match (stL s)[i2]? with | some y => decide (y < q + t.size) | none => false) := ⟨_, rfl⟩
      have HTT := Lib.hid htt
      clear htt
      go_upto_region 9 with fail
      go_cut [44] from 33 to 44 (fun s44 wc => s44 = .bool tt ∧ w5 = wc)
      case first =>
       by_cases hin2 : i2 < n
       ·have g3 : decide (i2 < n) = true := decide_eq_true hin2
        obtain ⟨y, hy⟩ : ∃ y, (stL s)[i2]? = some y := ⟨_, List.getElem?_eq_getElem (by rw [← HN.out]; exact hin2)⟩
        have h1 := HTT.out
        rw [hy] at h1
        have hys := stL_le (List.mem_of_getElem? hy)
        have g4 : decide ((y : Int) < (q : Int) + (t.size : Int)) = tt := by
         rw [h1, Bool.eq_iff_iff]; simp; omega
        have d1 := ((HBN.out).cell (p := ⟨b, o + i2, none⟩) hbl).trans (HCC.out _ _ hy)
        clear h1 hy d5 hys
        go_wp2_with fail
        go_meet
        case rel => exact ⟨rfl, rfl⟩
       ·have g3 : decide (i2 < n) = false := decide_eq_false hin2
        have h1 : tt = false := by
         have h2 := HTT.out
         rw [List.getElem?_eq_none (by rw [← HN.out]; omega)] at h2
         exact h2
        subst h1
        clear d5
        go_wp2_with fail
        go_meet
        case rel => exact ⟨rfl, rfl⟩
      case rest =>
       obtain ⟨rfl, rfl⟩ := hcut
       cases tt with
       | true =>
         have hin2 : i2 < n := by
          rcases Nat.lt_or_ge i2 n with h5 | h5
          ·exact h5
          ·have h1 := HTT.out
           rw [List.getElem?_eq_none (by rw [← HN.out]; omega)] at h1
           cases h1
         clear d5
         go_wp2_with fail
         go_roundg (n - i2)
         case measure => omega
         case rel => exact ⟨i2 + 1, by go_num, by omega, by omega, by omega, (fun m q' h5 h6 h7 => by
          rcases Nat.lt_or_ge m i2 with h8 | h8
          ·exact HALL.out m q' h5 h8 h7
          ·have e : m = i2 := by omega
           have h1 := HTT.out
           rw [← e, h7] at h1
           exact of_decide_eq_true h1.symm), rfl⟩
       | false =>
         have hlt2 : i + 1 ≤ i2 := by
          rcases Nat.lt_or_ge i i2 with h5 | h5
          ·exact h5
          ·exfalso
           have e : i2 = i := by omega
           have h1 := HTT.out
           rw [e, HQ.out] at h1
           have h2 := of_decide_eq_false h1.symm
           omega
         have hlow2 : ∀ q' ∈ (stL s).drop i2, q + t.size ≤ q' := fun q' hq' => by
          obtain ⟨m, hm⟩ := List.mem_iff_getElem?.1 hq'
          rw [List.getElem?_drop] at hm
          have hl2 := (List.getElem?_eq_some_iff.1 hm).1
          rw [← HN.out] at hl2
          obtain ⟨y, hy⟩ : ∃ y, (stL s)[i2]? = some y := ⟨_, List.getElem?_eq_getElem (by rw [← HN.out]; omega)⟩
          have h1 := HTT.out
          rw [hy] at h1
          have h2 := of_decide_eq_false h1.symm
          rcases Nat.eq_zero_or_pos m with h3 | h3
          ·rw [h3, Nat.add_zero, hy] at hm
           injection hm with hm
           omega
          ·have := stL_lt (show i2 < i2 + m by omega) hy hm
           omega
         have hC5 := HC.out i2 (by omega) w5 HBN.out
         have HC5 := Lib.hid hC5
         have HLOW := Lib.hid hlow2
         have hPn := HST.out i2 hlt2 HALL.out
         have HPN := Lib.hid hPn
         clear hC5 hlow2 hPn d5
         go_wp2_with fail
         refine HC5.out.mono ?_
         rintro e w7 ⟨rfl, rfl⟩
         go_wp2_with fail
         go_roundg (n - j)
         case measure => omega
         case rel => exact ⟨i2, q + t.size, P ++ [q], rfl, hi2n, by omega, HPN.out, HLOW.out, HO6.out, HBN.out⟩
theorem occS_len (s t : ByteArray) : (occS s t).length ≤ s.size + 1 := by
 unfold occS
 split
 ·simp
 ·exact Nat.le_trans (occL_len _ _ _ _) (stL_len s)
theorem scount_any (s t : ByteArray) (w : World) (hs : s.size ≤ 100000000) (ht : t.size ≤ 100000000) (hm : MX w) : Calls Tryz.prog 78 #[.string s, .string t] w fun e w' => e = .returned (.int .i64 ((occS s t).length : Nat)) ∧ Below w.heap.size w w' := by
 have hC := sall_any s t w hs ht hm
 go_enter Tryz.func78, Tryz.ntmps78
 go_wp2_with fail
 refine hC.mono ?_
 rintro e w1 ⟨p, c, rfl, -, hb⟩
 go_wp2_with fail
 go_ret
 exact ⟨rfl, hb⟩
end Go.Proofs.YtcklofamaooegaaGreatDoor
namespace Go.Proofs.YtcklofamaooegaaGreatDoor
open Go.RowKit
def repL (l t : List UInt8) (tl : Nat) : List Nat → Nat → List UInt8
 | [], f => l.drop f
 | o :: r, f => (l.take o).drop f ++ (t ++ repL l t tl r (o + tl))
def OkP (n tl : Nat) : List Nat → Nat → Prop
 | [], f => f ≤ n
 | o :: r, f => f ≤ o ∧ OkP n tl r (o + tl)
theorem OkP.le {n tl : Nat} : ∀ {Q : List Nat} {f : Nat}, OkP n tl Q f → f ≤ n
 | [], _, h => h
 | o :: r, f, h => by have := OkP.le h.2; have := h.1; omega
theorem OkP.take {n tl : Nat} : ∀ {Q : List Nat} {f : Nat} (m : Nat), OkP n tl Q f → OkP n tl (Q.take m) f
 | [], _, m, h => by simpa using h
 | o :: r, f, 0, h => h.le
 | o :: r, f, m + 1, h => ⟨h.1, OkP.take m h.2⟩
theorem OkP.drop {n tl : Nat} : ∀ {Q : List Nat} {f : Nat} (k o : Nat), OkP n tl Q f → Q[k]? = some o → ∀ g, (k = 0 → g = f) → (∀ j p, k = j + 1 → Q[j]? = some p → g = p + tl) → g ≤ o ∧ OkP n tl (Q.drop (k + 1)) (o + tl)
 | [], _, k, o, h, hk, g, h0, h1 => by simp at hk
 | q :: r, f, 0, o, h, hk, g, h0, h1 => by
   have : q = o := by simpa using hk
   subst this
   rw [h0 rfl]
   exact h
 | q :: r, f, k + 1, o, h, hk, g, h0, h1 => by
   refine OkP.drop k o h.2 (by simpa using hk) g (fun e => ?_) (fun j p e hp => ?_)
   ·subst e; exact h1 0 q rfl rfl
   ·exact h1 (j + 1) p (by omega) (by simpa using hp)
theorem repL_len {l t : List UInt8} {tl : Nat} : ∀ {Q : List Nat} {f : Nat}, OkP l.length tl Q f → ((repL l t tl Q f).length : Int) = (l.length : Int) - f + Q.length * ((t.length : Int) - tl)
 | [], f, h => by
   have : f ≤ l.length := h
   rw [repL, List.length_drop]; simp; omega
 | o :: r, f, h => by
   have h1 := h.2.le
   have h2 := h.1
   have ih := repL_len (t := t) h.2
   rw [repL, List.length_append, List.length_append, List.length_drop, List.length_take, Nat.min_eq_left (by omega)]
   have e : ((r.length + 1 : Nat) : Int) * ((t.length : Int) - tl) = r.length * ((t.length : Int) - tl) + ((t.length : Int) - tl) := by rw [Int.natCast_add, Int.add_mul]; simp
   rw [Int.natCast_add, Int.natCast_add, ih, List.length_cons, e]
   omega
theorem repL_pre {l t : List UInt8} {tl : Nat} {o f : Nat} {r : List Nat} : (repL l t tl (o :: r) f) = (l.take o).drop f ++ t ++ repL l t tl r (o + tl) := by rw [repL, List.append_assoc]
theorem occL_ok (l t : List UInt8) (ht : 1 ≤ t.length) : ∀ (Q : List Nat) (e : Nat), e ≤ l.length → OkP l.length t.length (occL l t Q e) e
 | [], e, h => h
 | q :: Q, e, h => by
   rw [occL]
   split
   ·rename_i hc
    exact ⟨hc.1, occL_ok l t ht Q _ (pre_le hc.2 ht)⟩
   ·exact occL_ok l t ht Q e h
theorem occS_ok (s t : ByteArray) : OkP s.size t.size (occS s t) 0 := by
 unfold occS
 split
 ·exact Nat.zero_le _
 ·rename_i h
  have h1 : s.data.toList.length = s.size := by simp
  have h2 : t.data.toList.length = t.size := by simp
  have := occL_ok s.data.toList t.data.toList (by omega) (stL s) 0 (by omega)
  rwa [h1, h2] at this
def repN (n : Nat) (most : Int) : Nat := if 0 ≤ most ∧ most < n then most.toNat else n
theorem repN_le (n : Nat) (most : Int) : repN n most ≤ n := by unfold repN; split <;> omega
def repT (s old t : ByteArray) (most : Int) : List UInt8 := repL s.data.toList t.data.toList old.size ((occS s old).take (repN (occS s old).length most)) 0
def repV (s old t : ByteArray) (most : Int) : ByteArray × Int := if (repT s old t most).length ≤ 32768 then (⟨(repT s old t most).toArray⟩, 0) else (⟨#[]⟩, 3)
end Go.Proofs.YtcklofamaooegaaGreatDoor
namespace Go.Proofs.YtcklofamaooegaaGreatDoor
open Go.RowKit
attribute [local go_sem ↓] Go.wp_at_zero Go.wp_at_succ
theorem NSL.take {w : World} {p : Option Addr} {c : Nat} {l : List Nat} (h : NSL w p c l) (n : Nat) (hn : n ≤ l.length) : NSL w p c (l.take n) := by
 obtain ⟨h1, h2, h3⟩ := h
 refine ⟨by rw [List.length_take]; omega, h2, ?_⟩
 rcases h3 with rfl | ⟨b, o, rfl, hl, h4⟩
 ·exact .inl (by simp)
 ·refine .inr ⟨b, o, rfl, hl, fun j x hj => h4 j x ?_⟩
  rw [List.getElem?_take] at hj
  split at hj
  ·exact hj
  ·cases hj
theorem sz_of {X : ByteArray} {l : List UInt8} (h : X.data.toList = l) : X.size = l.length := by rw [← h]; simp
theorem ext_data (s : ByteArray) (i j : Nat) : (s.extract i j).data.toList = (s.data.toList.take j).drop i := by rw [ByteArray.data_extract, Array.toList_extract, List.drop_take]
def prtJ (n : Nat) (i : Int) : Int := if i < 0 then i + n + 1 else i
def prtS (s t : ByteArray) (i : Int) : ByteArray := if 0 ≤ prtJ (occS s t).length i ∧ prtJ (occS s t).length i ≤ (occS s t).length then ⟨((divL s.data.toList t.data.toList (occS s t) 0).getD (prtJ (occS s t).length i).toNat []).toArray⟩ else ⟨#[]⟩
theorem SL.all {w : World} {p : Option Addr} {c : Nat} {l : List ByteArray} (h : SL w p c l) (h0 : 0 < l.length) : ∃ b o, p = some ⟨b, o, none⟩ ∧ b < w.heap.size ∧ ∀ (j : Nat) (x : ByteArray), l[j]? = some x → w.cell? ⟨b, o + j, none⟩ = some (.string x) := by
 rcases h.2.2 with h | h
 ·rw [h] at h0; cases h0
 ·exact h
def ws4 (c : UInt8) : Bool := c == 9 || c == 10 || c == 13 || c == 32
def trimW (p : UInt8 → Bool) (l : List UInt8) : List UInt8 := ((l.dropWhile p).reverse.dropWhile p).reverse
theorem data_mk (l : List UInt8) : (⟨l.toArray⟩ : ByteArray).data.toList = l := rfl
theorem first_cons (X : ByteArray) (h : 0 < X.size) : X.data.toList = X[0] :: (X.extract 1 X.size).data.toList := by
 have := drop_byte X 0 h
 rw [List.drop_zero] at this
 rw [this, Lib.extract_to_end]
theorem ptrim_set (s : ByteArray) (cs : List UInt8) (w : World) (hs : s.size ≤ 100000000) (hc : cs.length ≤ 100) (ha : cs.all (fun b => decide (b.toNat < 128)) = true) :
  Calls Tryz.prog 108 #[.string s, .string ⟨cs.toArray⟩] w fun e w' => e = .returned (.string ⟨(Lib.trimS s.data.toList cs).toArray⟩) ∧ Below w.heap.size w w' :=
 Any.strings_Trim_laid Tryz.lays160 (by kernel_rfl) s ⟨cs.toArray⟩ w (by omega) (by rw [Lib.size_mk]; omega) (ascii_of_all ha)
theorem trim_comm (p : UInt8 → Bool) : ∀ l : List UInt8, ((l.reverse.dropWhile p).reverse).dropWhile p = ((l.dropWhile p).reverse.dropWhile p).reverse
 | [] => rfl
 | c :: r => by
   have ih := trim_comm p r
   rw [List.reverse_cons, List.dropWhile_append]
   cases hp : p c with
   | true =>
     have e1 : (c :: r).dropWhile p = r.dropWhile p := List.dropWhile_cons_of_pos hp
     rw [e1]
     by_cases he : (r.reverse.dropWhile p).isEmpty = true
     ·rw [if_pos he]
      have e2 : r.reverse.dropWhile p = [] := List.isEmpty_iff.1 he
      have e3 : [c].dropWhile p = [] := by rw [List.dropWhile_cons_of_pos hp, List.dropWhile_nil]
      rw [e3, ← ih, e2]
     ·rw [if_neg he, List.reverse_append]
      show (c :: (r.reverse.dropWhile p).reverse).dropWhile p = _
      rw [List.dropWhile_cons_of_pos hp, ih]
   | false =>
     have e1 : (c :: r).dropWhile p = c :: r := List.dropWhile_cons_of_neg (by simp [hp])
     have e3 : [c].dropWhile p = [c] := List.dropWhile_cons_of_neg (by simp [hp])
     rw [e1, List.reverse_cons, List.dropWhile_append, e3]
     by_cases he : (r.reverse.dropWhile p).isEmpty = true
     ·rw [if_pos he]
      show [c].dropWhile p = [c]
      exact e3
     ·rw [if_neg he, List.reverse_append]
      show (c :: (r.reverse.dropWhile p).reverse).dropWhile p = c :: (r.reverse.dropWhile p).reverse
      exact List.dropWhile_cons_of_neg (by simp [hp])
theorem trimS_eq (l cs : List UInt8) : Lib.trimS l cs = trimW (cs.contains ·) l := trim_comm _ l
theorem ws4_set : (([9, 10, 13, 32] : List UInt8).contains ·) = ws4 := by
 funext c
 simp only [List.contains_cons, List.contains_nil, Bool.or_false, ws4]
 rw [Bool.or_assoc, Bool.or_assoc]
theorem strim_any (s : ByteArray) (w : World) (hs : s.size ≤ 100000000) : Calls Tryz.prog 50 #[.string s] w fun e w' => e = .returned (.string ⟨(trimW ws4 s.data.toList).toArray⟩) ∧ Below w.heap.size w w' := by
 have h := ptrim_set s [9, 10, 13, 32] w hs (by decide) (by decide)
 rw [trimS_eq, ws4_set] at h
 have h : Calls Tryz.prog 108 #[.string s, .string ⟨#[9, 10, 13, 32]⟩] w fun e w' => e = .returned (.string ⟨(trimW ws4 s.data.toList).toArray⟩) ∧ Below w.heap.size w w' := h
 go_enter Tryz.func50, Tryz.ntmps50
 go_wp2_with fail
 refine h.mono ?_
 rintro e w1 ⟨rfl, hb⟩
 go_wp2_with fail
 go_ret
 exact ⟨rfl, hb⟩
def nms : List ByteArray := [⟨#[100, 97, 116, 101, 97, 100, 100]⟩, ⟨#[100, 97, 116, 101, 102, 111, 114, 109, 97, 116]⟩, ⟨#[102, 105, 120, 101, 100]⟩, ⟨#[102, 111, 114, 109, 117, 108, 97]⟩, ⟨#[108, 99]⟩, ⟨#[108, 99, 102, 105, 114, 115, 116]⟩, ⟨#[108, 101, 110]⟩, ⟨#[111, 99, 99, 117, 114, 115]⟩, ⟨#[112, 97, 100, 108, 101, 102, 116]⟩, ⟨#[112, 97, 100, 114, 105, 103, 104, 116]⟩, ⟨#[112, 97, 114, 116]⟩, ⟨#[112, 111, 115]⟩, ⟨#[114, 101, 112, 108, 97, 99, 101]⟩, ⟨#[115, 117, 98]⟩, ⟨#[116, 114, 105, 109]⟩, ⟨#[117, 99]⟩, ⟨#[117, 99, 102, 105, 114, 115, 116]⟩]
def uns : List ByteArray := [⟨#[109, 105, 110, 117, 116, 101]⟩, ⟨#[104, 111, 117, 114]⟩, ⟨#[100, 97, 121]⟩, ⟨#[109, 111, 110, 116, 104]⟩, ⟨#[121, 101, 97, 114]⟩]
def idxN (s : ByteArray) : List ByteArray → Nat → Int
 | [], _ => -1
 | x :: l, k => if x.data.toList = s.data.toList then k else idxN s l (k + 1)
theorem idxN_lo (s : ByteArray) : ∀ (l : List ByteArray) (k : Nat), idxN s l k = -1 ∨ (k ≤ idxN s l k ∧ idxN s l k < k + l.length)
 | [], k => .inl rfl
 | x :: l, k => by
   rw [idxN, List.length_cons]
   split
   ·exact .inr ⟨by omega, by omega⟩
   ·rcases idxN_lo s l (k + 1) with h | h
    ·exact .inl h
    ·exact .inr ⟨by omega, by omega⟩
theorem idxN_mem (s : ByteArray) : ∀ (l : List ByteArray) (k : Nat), 0 ≤ idxN s l k → s ∈ l
 | [], k, h => by simp [idxN] at h
 | x :: l, k, h => by
   rw [idxN] at h
   split at h
   ·rename_i e
    rw [bytes_ext e]; exact List.mem_cons_self
   ·exact List.mem_cons_of_mem _ (idxN_mem s l _ h)
theorem mem_idxN (s : ByteArray) : ∀ (l : List ByteArray) (k : Nat), s ∈ l → 0 ≤ idxN s l k
 | [], k, h => by cases h
 | x :: l, k, h => by
   rw [idxN]
   split
   ·omega
   ·rename_i e
    rcases List.mem_cons.1 h with rfl | h
    ·exact absurd rfl e
    ·exact mem_idxN s l _ h
theorem dropB {Q : List ByteArray} {i : Nat} {q : ByteArray} (h : Q[i]? = some q) : Q.drop i = q :: Q.drop (i + 1) := by
 obtain ⟨hl, e⟩ := List.getElem?_eq_some_iff.1 h
 rw [List.drop_eq_getElem_cons hl, e]
theorem tl_eq (a b : ByteArray) : (a.toList == b.toList) = decide (a.data.toList = b.data.toList) := by rw [ByteArray.toList_eq, ByteArray.toList_eq, Bool.eq_iff_iff]; simp
theorem SL.made (w : World) (t : TypeId) (l : List ByteArray) (hl : l.length ≤ 1000) (h0 : l ≠ []) : SL (w.alloc (.cells (tcs l).toArray t)) (some ⟨w.heap.size, 0, none⟩) l.length l := by
 refine ⟨Nat.le_refl _, by omega, .inr ⟨_, _, rfl, by rw [World.size_alloc]; omega, fun j x hj => ?_⟩⟩
 rw [(Known.made w t (tcs l).toArray).cell, Nat.zero_add]
 unfold tcs
 rw [List.getElem?_toArray, List.getElem?_map, hj]
 rfl
theorem names_any (w : World) : Calls Tryz.prog 14 #[] w fun e w' => ∃ p, e = .returned (.slice p 17 17) ∧ SL w' p 17 nms ∧ Below w.heap.size w w' := by
 go_enter Tryz.func14, Tryz.ntmps14
 go_wp2_with fail
 go_ret
 exact ⟨_, rfl, SL.made w _ nms (by decide) (by decide), below_new0 _ _⟩
theorem rnames_any (w : World) : Calls Tryz.prog 15 #[] w fun e w' => ∃ p, e = .returned (.slice p 17 17) ∧ SL w' p 17 nms ∧ Below w.heap.size w w' := by
 go_enter Tryz.func15, Tryz.ntmps15
 go_wp2_with fail
 go_ret
 exact ⟨_, rfl, SL.made w _ nms (by decide) (by decide), below_new0 _ _⟩
theorem index_any (s : ByteArray) (l : List ByteArray) (p : Option Addr) (c : Nat) (w : World) (hl : l.length ≤ 1000) (h0 : 0 < l.length) (hS : SL w p c l) :
  Calls Tryz.prog 49 #[.slice p l.length c, .string s] w fun e w' => e = .returned (.int .i64 (idxN s l 0)) ∧ w = w' := by
 obtain ⟨V, hV⟩ : ∃ V, V = idxN s l 0 := ⟨_, rfl⟩
 rw [← hV]
 have hcap := hS.1
 have hcap2 := hS.2.1
 obtain ⟨b, o, rfl, hbl, hcc⟩ := hS.all h0
 obtain ⟨n, hn⟩ : ∃ n, n = l.length := ⟨_, rfl⟩
 rw [← hn] at hl h0 hcap ⊢
 have HV := Lib.hid hV
 have HN := Lib.hid hn
 have HCC := Lib.hid hcc
 clear hV hn hS hcc
 go_enter Tryz.func49, Tryz.ntmps49
 go_wp2_with fail
 go_loopg [5, 8] (n + 1) (fun g s5 s8 wr => ∃ k : Nat, s8 = .int .i64 k ∧ k ≤ n ∧ n < k + g ∧ V = idxN s (l.drop k) k ∧ w = wr)
 case atStart => exact ⟨0, rfl, by omega, by omega, by rw [HV.out]; rfl, rfl⟩
 case round =>
  obtain ⟨k, rfl, hk, hg, hv, rfl⟩ := hrel
  have HVK := Lib.hid hv
  clear hv
  by_cases h1 : k < n
  ·have g1 : decide (k < n) = true := decide_eq_true h1
   obtain ⟨x, hx⟩ : ∃ x, l[k]? = some x := ⟨_, List.getElem?_eq_getElem (by rw [← HN.out]; exact h1)⟩
   have d0 := HCC.out k x hx
   have hv := HVK.out
   rw [dropB hx, idxN] at hv
   by_cases h2 : x.data.toList = s.data.toList
   ·have hx2 : x = s := bytes_ext h2
    rw [if_pos h2] at hv
    have HV3 := Lib.hid hv
    subst hx2
    clear hv hx h2
    go_wp2_with fail
    go_ret
    exact ⟨by rw [HV3.out]; rfl, rfl⟩
   ·have e1 : (s.toList == x.toList) = false := by rw [tl_eq]; exact decide_eq_false (fun h => h2 h.symm)
    rw [if_neg h2] at hv
    have HV3 := Lib.hid hv
    clear hv hx h2
    go_wp2_with fail
    go_roundg (n - k)
    case measure => omega
    case rel => exact ⟨k + 1, by go_num, by omega, by omega, HV3.out, rfl⟩
  ·have g1 : decide (k < n) = false := decide_eq_false h1
   have hv := HVK.out
   rw [List.drop_of_length_le (by rw [← HN.out]; omega), idxN] at hv
   have HV3 := Lib.hid hv
   clear hv
   go_wp2_with fail
   go_ret
   exact ⟨by rw [HV3.out]; rfl, rfl⟩
theorem contains_any (s : ByteArray) (p : Option Addr) (w : World) (hS : SL w p 17 nms) :
  Calls Tryz.prog 23 #[.slice p 17 17, .string s] w fun e w' => e = .returned (.bool (decide (0 ≤ idxN s nms 0))) ∧ w = w' := by
 have hI := index_any s nms p 17 w (by decide) (by decide) hS
 rw [show nms.length = 17 from rfl] at hI
 generalize idxN s nms 0 = V at *
 go_enter Tryz.func23, Tryz.ntmps23
 go_wp2_with fail
 refine hI.mono ?_
 rintro e w1 ⟨rfl, rfl⟩
 go_wp2_with fail
 go_ret
 exact ⟨rfl, rfl⟩
theorem unit_word (s : ByteArray) (w : World) : Calls Tryz.prog 62 #[.string s] w fun e w' => e = .returned (.int .i64 (idxN s uns 0 + 1)) ∧ Below w.heap.size w w' := by
 have hS := SL.made w 9 uns (by decide) (by decide)
 have hI := fun W p (h : SL W p 5 uns) => index_any s uns p 5 W (by decide) (by decide) h
 have hS2 : SL (w.alloc (.cells (tcs uns).toArray 9)) (some ⟨w.heap.size, 0, none⟩) 5 uns := hS
 have hI2 := hI _ _ hS2
 have hI3 : Calls Tryz.prog 49 #[.slice (some ⟨w.heap.size, 0, none⟩) 5 5, .string s] (w.alloc (.cells #[.string ⟨#[109, 105, 110, 117, 116, 101]⟩, .string ⟨#[104, 111, 117, 114]⟩, .string ⟨#[100, 97, 121]⟩, .string ⟨#[109, 111, 110, 116, 104]⟩, .string ⟨#[121, 101, 97, 114]⟩] 9)) fun e w' => e = .returned (.int .i64 (idxN s uns 0)) ∧ (w.alloc (.cells #[.string ⟨#[109, 105, 110, 117, 116, 101]⟩, .string ⟨#[104, 111, 117, 114]⟩, .string ⟨#[100, 97, 121]⟩, .string ⟨#[109, 111, 110, 116, 104]⟩, .string ⟨#[121, 101, 97, 114]⟩] 9)) = w' := hI2
 have hlo := idxN_lo s uns 0
 have hul : uns.length = 5 := rfl
 rw [hul] at hlo
 generalize idxN s uns 0 = V at *
 have HI := Lib.hid hI3
 clear hI hS hS2 hI2 hI3 hul
 have hv1 : -1 ≤ V := by omega
 have hv2 : V < 5 := by omega
 clear hlo
 go_enter Tryz.func62, Tryz.ntmps62
 go_wp2_with fail
 refine HI.out.mono ?_
 rintro e w1 ⟨rfl, rfl⟩
 go_wp2_with fail
 go_ret
 exact ⟨rfl, below_new0 _ _⟩
end Go.Proofs.YtcklofamaooegaaGreatDoor
namespace Go.Proofs.YtcklofamaooegaaGreatDoor
open Go.RowKit
def ErrW (x : Int × Int × Int) : Prop := x.2.2 = 0 ∨ x = (0, 0, x.2.2)
theorem errw_ite {p : Prop} [Decidable p] {x y : Int × Int × Int} (hx : p → ErrW x) (hy : ¬ p → ErrW y) : ErrW (if p then x else y) := by
 by_cases h : p
 ·rw [if_pos h]; exact hx h
 ·rw [if_neg h]; exact hy h
theorem errw_no (e : Int) : ErrW (0, 0, e) := .inr rfl
theorem errw_red (n m : Int) : ErrW (Num.red n m) := by
 unfold Num.red Num.redN Num.redD Num.redE
 by_cases h : Num.rB n m = true
 ·rw [if_pos h, if_pos h, if_pos h]; exact .inl rfl
 ·rw [if_neg h, if_neg h, if_neg h]; exact .inr rfl
theorem errw_opV (z : Bool) (n m a b c d : Int) : ErrW (opV z n m a b c d) := by
 unfold opV
 exact errw_ite (fun _ => errw_ite (fun _ => errw_no _) (fun _ => errw_red _ _)) (fun _ => errw_no _)
theorem errw_pow (a b : Int) : ∀ k, ErrW (powV a b k)
 | 0 => .inl rfl
 | k + 1 => by
   rw [powV]
   simp only
   exact errw_ite (fun _ => errw_ite (fun h => .inl h) (fun _ => errw_no _)) (fun _ => errw_pow a b k)
theorem errw_sign (op : ByteArray) (a b : Int) : ErrW (signV op a b) := by
 unfold signV
 refine errw_ite (fun _ => errw_opV _ _ _ _ _ _ _) (fun _ => errw_ite (fun _ => .inl rfl) (fun _ => errw_ite (fun _ => errw_ite (fun _ => ?_) (fun _ => errw_no _)) (fun _ => .inl rfl)))
 unfold mkN mkD mkE
 by_cases h : mkB (floorV a b).1 1 = true
 ·rw [if_pos h, if_pos h, if_pos h]; exact errw_red _ _
 ·rw [if_neg h, if_neg h, if_neg h]; exact errw_no _
theorem errw_round (a b k : Int) : ErrW (roundV a b k) := by
 unfold roundV
 exact errw_ite (fun _ => errw_ite (fun _ => errw_no _) (fun _ => errw_red _ _)) (fun _ => errw_no _)
theorem errw_apply (op : ByteArray) (a b c d : Int) : ErrW (applyV op a b c d) := by
 unfold applyV
 refine errw_ite (fun _ => errw_opV _ _ _ _ _ _ _) fun _ => errw_ite (fun _ => errw_opV _ _ _ _ _ _ _) fun _ => errw_ite (fun _ => errw_opV _ _ _ _ _ _ _) fun _ => errw_ite (fun _ => errw_opV _ _ _ _ _ _ _) fun _ => errw_ite (fun _ => errw_opV _ _ _ _ _ _ _) fun _ => errw_ite (fun _ => ?_) fun _ => errw_ite (fun _ => ?_) fun _ => ?_
 ·unfold raiseV
  exact errw_ite (fun _ => errw_ite (fun _ => .inl rfl) (fun _ => errw_pow _ _ _)) (fun _ => errw_no _)
 ·unfold roundsV
  exact errw_ite (fun _ => errw_round _ _ _) (fun _ => errw_no _)
 ·repeat (refine errw_ite (fun _ => .inl rfl) fun _ => ?_)
  exact .inl rfl
theorem errw_resV (b : Bool) (o : Option (Nat × Nat)) : ErrW (resV b o) := by
 unfold resV
 split
 ·exact errw_no _
 ·exact errw_red _ _
def Fine (r : Int × Int × Int) : Prop := OkV r ∧ ErrW r
theorem Fine.i64 {r : Int × Int × Int} (h : Fine r) : I64 r.1 ∧ I64 r.2.1 := by
 by_cases h0 : r.2.2 = 0
 ·exact val_i64 (h.1 h0)
 ·rcases h.2 with h2 | h2
  ·exact absurd h2 h0
  ·rw [h2]; exact ⟨by unfold I64; simp, by unfold I64; simp⟩
theorem Fine.zero {r : Int × Int × Int} (h : Fine r) (h0 : r.2.2 ≠ 0) : r.1 = 0 ∧ r.2.1 = 0 := by
 rcases h.2 with h2 | h2
 ·exact absurd h2 h0
 ·rw [h2]; exact ⟨rfl, rfl⟩
theorem parse_fine (s : ByteArray) (hs : s.size ≤ 400) : ∃ r : Int × Int × Int, Ret 112 #[.string s] r ∧ Ret 143 #[.string s] r ∧ Fine r := by
 by_cases h0 : s.size = 0
 ·obtain ⟨a, b⟩ := parse_e s hs h0
  exact ⟨_, a, b, (fun h => (by cases h)), errw_no _⟩
 have h0 : 0 < s.size := by omega
 by_cases h1 : (s[0].toNat : Int) = 43
 ·obtain ⟨o, ho⟩ := reads_any (s.extract 1 s.size)
  obtain ⟨a, b⟩ := parse_p s hs h0 h1 o ho
  exact ⟨_, a, b, resV_ok _ _, errw_resV _ _⟩
 by_cases h2 : (s[0].toNat : Int) = 45
 ·obtain ⟨o, ho⟩ := reads_any (s.extract 1 s.size)
  obtain ⟨a, b⟩ := parse_m s hs h0 h2 o ho
  exact ⟨_, a, b, resV_ok _ _, errw_resV _ _⟩
 ·obtain ⟨o, ho⟩ := reads_any s
  obtain ⟨a, b⟩ := parse_n s hs h0 h1 h2 o ho
  exact ⟨_, a, b, resV_ok _ _, errw_resV _ _⟩
theorem valB_fine : ∀ T : Form.Tree, T.fine → ∃ r, ValB T r ∧ ErrW r
 | .num t, h => by obtain ⟨r, a, b, c⟩ := parse_fine t (Nat.le_trans h (by decide)); exact ⟨r, .num a b c.1, c.2⟩
 | .un op a, h => by
   obtain ⟨r, k, -⟩ := valB_fine a h.2
   exact ⟨_, .un h.1 k, errw_ite (fun _ => errw_sign _ _ _) (fun _ => errw_no _)⟩
 | .bin op a b, h => by
   obtain ⟨r, k, -⟩ := valB_fine a h.2.1
   obtain ⟨s, l, -⟩ := valB_fine b h.2.2
   exact ⟨_, .bin h.1 k l, errw_ite (fun _ => errw_ite (fun _ => errw_apply _ _ _ _ _) (fun _ => errw_no _)) (fun _ => errw_no _)⟩
theorem fine_no {e : Int} (h : e ≠ 0) : Fine (0, 0, e) := ⟨ok_err h, errw_no _⟩
theorem eval_fine (s : ByteArray) (hs : s.size ≤ 1000000) : ∃ r, Ret 25 #[.string s] r ∧ Ret 40 #[.string s] r ∧ Fine r := by
 by_cases h : 400 < s.size
 ·exact ⟨_, eval_any hs (.long h), fun w => refEval_long s w h hs, fine_no (by decide)⟩
 have h : s.size ≤ 400 := by omega
 cases ht : Form.tokens s.data.toList with
 | none => exact ⟨_, eval_any hs (.scan h ht), fun w => refEval_no s w h (parse_none s h ht), fine_no (by decide)⟩
 | some ts =>
   have hl := Form.tokens_len ht
   have hsz := Form.tokens_sz ht
   have e : s.data.toList.length = s.size := by simp
   obtain ⟨f, x, hP, -⟩ := (Form.P_total ts.length).1 8 ts false (Nat.le_refl _) (Nat.le_refl _)
   have hP : Form.P f (.lv 0) ts false = some x := hP
   have hL : ParL ts x := fun g w hr => (refLevels f).1 g ts x w hP (by omega) hr
   by_cases hb : x.bad = true ∨ x.rest ≠ []
   ·refine ⟨_, eval_any hs (.bad h ht hP hb), fun w => refEval_no s w h (parse_bad s ts x h ht hL (by omega) (fun t ht => (hsz t ht).1) ?_), fine_no (by decide)⟩
    rcases hb with hb | hb
    ·exact .inl hb
    ·cases hx : x.bad
     ·exact .inr ⟨rfl, hb⟩
     ·exact .inl rfl
   ·have hb1 : x.bad = false := by cases hx : x.bad <;> simp_all
    have hb2 : x.rest = [] := by
     by_cases hr : x.rest = []
     ·exact hr
     ·exact absurd (.inr hr) hb
    obtain ⟨T, rest, b⟩ := x
    simp only at hb1 hb2
    subst hb1 hb2
    have hy := parse_yes s ts T h ht hL (by omega) (fun t ht => (hsz t ht).1)
    have hlv := Form.P_levels _ _ _ _ _ hP
    simp only [Form.jobL, List.length_nil] at hlv
    by_cases hd : 20 < T.levels
    ·exact ⟨_, eval_any hs (.deep h ht hP hd), fun w => refEval_deep s T w h hy hd (by omega), fine_no (by decide)⟩
    ·have hf := (Form.P_fine _ _ _ _ _ hP (fun t ht => by have := hsz t ht; omega) trivial).1
     obtain ⟨r, hv, he⟩ := valB_fine T hf
     exact ⟨r, eval_any hs (.val h ht hP (by omega) hv.val), fun w => refEval_val s T r w h hy (by omega) hv, hv.val.ok, he⟩
end Go.Proofs.YtcklofamaooegaaGreatDoor
namespace Go.Proofs.YtcklofamaooegaaGreatDoor
open Go.RowKit
attribute [local go_sem ↓] Go.wp_at_zero Go.wp_at_succ
def rawV (l : List ByteArray) (i : Nat) : ByteArray := l[i]?.getD ⟨#[]⟩
def argV (l : List ByteArray) (i : Nat) : ByteArray := ⟨(trimW ws4 (rawV l i).data.toList).toArray⟩
def Sml (l : List ByteArray) : Prop := l.length ≤ 1000 ∧ ∀ x ∈ l, x.size ≤ 310
theorem rawV_sz {l : List ByteArray} (h : Sml l) (i : Nat) : (rawV l i).size ≤ 310 := by
 unfold rawV
 cases hx : l[i]? with
 | none => exact Nat.zero_le _
 | some x => exact h.2 x (List.mem_of_getElem? hx)
theorem dw_len (p : UInt8 → Bool) : ∀ l : List UInt8, (l.dropWhile p).length ≤ l.length
 | [] => Nat.le_refl _
 | c :: r => by
   rw [List.dropWhile_cons]
   split
   ·rw [List.length_cons]; have := dw_len p r; omega
   ·exact Nat.le_refl _
theorem trimW_len (p : UInt8 → Bool) (l : List UInt8) : (trimW p l).length ≤ l.length := by
 unfold trimW
 rw [List.length_reverse]
 refine Nat.le_trans (dw_len _ _) ?_
 rw [List.length_reverse]
 exact dw_len _ _
theorem argV_sz {l : List ByteArray} (h : Sml l) (i : Nat) : (argV l i).size ≤ 310 := by
 unfold argV
 rw [Lib.size_mk]
 have h1 := trimW_len ws4 (rawV l i).data.toList
 have h2 := rawV_sz h i
 have h3 : (rawV l i).data.toList.length = (rawV l i).size := by simp
 omega
def Env (w : World) : Prop := Tab w ∧ MX w
theorem Env.below {w w' : World} (h : Env w) (hb : Below w.heap.size w w') : Env w' := ⟨h.1.on hb, h.2.below hb⟩
structure CK (g : Nat) (w : World) (p : Option Addr) (c : Nat) (l : List ByteArray) (e : Int) : Prop where
 kn : Known w g 48 #[.slice p l.length c, .int .i64 e]
 sl : SL w p c l
 far : l = [] ∨ ∀ b o, p = some ⟨b, o, none⟩ → b < g
 env : ∃ W, Env W ∧ W.heap.size ≤ g ∧ Below W.heap.size W w
theorem CK.on {g : Nat} {w w' : World} {p : Option Addr} {c : Nat} {l : List ByteArray} {e : Int} (h : CK g w p c l e) (hb : Below w.heap.size w w') : CK g w' p c l e := by
 obtain ⟨W, h1, h2, h3⟩ := h.env
 exact ⟨h.kn.on hb, h.sl.below hb, h.far, W, h1, h2, below_then h3 hb⟩
theorem CK.put {g : Nat} {w : World} {p : Option Addr} {c : Nat} {l : List ByteArray} {e : Int} (h : CK g w p c l e) (z : Int) : CK g (w.setCell ⟨g, 1, none⟩ (.int .i64 z)) p c l z := by
 obtain ⟨W, h1, h2, h3⟩ := h.env
 have hb : Below g w (w.setCell ⟨g, 1, none⟩ (.int .i64 z)) := (Below.refl g w).setCell (p := ⟨g, 1, none⟩) (Nat.le_refl g) _
 refine ⟨h.kn.put 1 _, ?_, h.far, W, h1, h2, h3.setCell h2 _⟩
 obtain ⟨s1, s2, s3⟩ := h.sl
 refine ⟨s1, s2, ?_⟩
 rcases h.far with hf | hf
 ·exact .inl hf
 rcases s3 with s3 | ⟨b, o, hp, hl, hc⟩
 ·exact .inl s3
 ·exact .inr ⟨b, o, hp, by rw [World.size_setCell]; exact hl, fun j x hj => (hb.cell (p := ⟨b, o + j, none⟩) (hf b o hp)).trans (hc j x hj)⟩
theorem CK.get {g : Nat} {w : World} {p : Option Addr} {c : Nat} {l : List ByteArray} {e : Int} (h : CK g w p c l e) : Env w := by
 obtain ⟨W, h1, h2, h3⟩ := h.env
 exact h1.below h3
theorem CK.lt {g : Nat} {w : World} {p : Option Addr} {c : Nat} {l : List ByteArray} {e : Int} (h : CK g w p c l e) : g < w.heap.size := h.kn.lt
def fstE (e z : Int) : Int := if e = 0 then z else e
theorem fstE_zero (e : Int) : fstE e 0 = e := by unfold fstE; split <;> simp_all
theorem craw_any (i : Nat) (hi : i ≤ 1000) {g : Nat} {w : World} {p : Option Addr} {c : Nat} {l : List ByteArray} {e : Int} (h : CK g w p c l e) (hl : Sml l) :
  Calls Tryz.prog 51 #[.pointer (some ⟨g, 0, none⟩), .int .i64 (i : Int)] w fun E w' => E = .returned (.string (rawV l i)) ∧ w = w' := by
 obtain ⟨c0, c1⟩ := h.kn.two
 have hg := h.lt
 have hcap := h.sl.1
 have hcap2 := h.sl.2.1
 have hll := hl.1
 by_cases h1 : i < l.length
 ·obtain ⟨b, o, rfl, hbl, hcc⟩ := h.sl.all (by omega)
  obtain ⟨x, hx⟩ : ∃ x, l[i]? = some x := ⟨_, List.getElem?_eq_getElem h1⟩
  have d0 := hcc i x hx
  have hr : rawV l i = x := by unfold rawV; rw [hx]; rfl
  obtain ⟨n, hn⟩ : ∃ n, n = l.length := ⟨_, rfl⟩
  rw [← hn] at c0 hcap h1 hll
  have g1 : decide (i < n) = true := decide_eq_true h1
  have HR := Lib.hid hr
  clear h hcc hx hr hn
  go_enter Tryz.func51, Tryz.ntmps51
  go_wp2_with fail
  go_ret
  exact ⟨by rw [HR.out]; rfl, rfl⟩
 ·have hr : rawV l i = ⟨#[]⟩ := by unfold rawV; rw [List.getElem?_eq_none (by omega)]; rfl
  obtain ⟨n, hn⟩ : ∃ n, n = l.length := ⟨_, rfl⟩
  rw [← hn] at c0 hcap h1 hll
  have g1 : decide (i < n) = false := decide_eq_false h1
  have HR := Lib.hid hr
  clear h hr hn
  go_enter Tryz.func51, Tryz.ntmps51
  go_wp2_with fail
  go_ret
  exact ⟨by rw [HR.out]; rfl, rfl⟩
theorem carg_any (i : Nat) (hi : i ≤ 1000) {g : Nat} {w : World} {p : Option Addr} {c : Nat} {l : List ByteArray} {e : Int} (h : CK g w p c l e) (hl : Sml l) :
  Calls Tryz.prog 24 #[.pointer (some ⟨g, 0, none⟩), .int .i64 (i : Int)] w fun E w' => E = .returned (.string (argV l i)) ∧ Below w.heap.size w w' := by
 have hC := craw_any i hi h hl
 have hT := fun W => strim_any (rawV l i) W (by have := rawV_sz hl i; omega)
 have hr : argV l i = ⟨(trimW ws4 (rawV l i).data.toList).toArray⟩ := rfl
 rw [← hr] at hT
 have HT := Lib.hid hT
 clear h hT hr
 generalize argV l i = V at *
 generalize rawV l i = R at *
 go_enter Tryz.func24, Tryz.ntmps24
 go_wp2_with fail
 refine hC.mono ?_
 rintro E w1 ⟨rfl, rfl⟩
 go_wp2_with fail
 refine (HT.out _).mono ?_
 rintro E w2 ⟨rfl, hb⟩
 go_wp2_with fail
 go_ret
 exact ⟨rfl, hb⟩
theorem cfail_any (z : Int) {g : Nat} {w : World} {p : Option Addr} {c : Nat} {l : List ByteArray} {e : Int} (h : CK g w p c l e) :
  Calls Tryz.prog 31 #[.pointer (some ⟨g, 0, none⟩), .int .i64 z] w fun E w' => E = .returned (.tuple #[]) ∧ CK g w' p c l (fstE e z) ∧ Below g w w' ∧ ∀ k t cs, g ≠ k → Known w k t cs → Known w' k t cs := by
 obtain ⟨c0, c1⟩ := h.kn.two
 have f1 := h.kn.free 1
 have hg := h.lt
 by_cases h0 : e = 0
 ·have he : fstE e z = z := by unfold fstE; rw [if_pos h0]
  rw [he]
  have hp := h.put z
  subst h0
  have HP := Lib.hid hp
  clear h he hp
  go_enter Tryz.func31, Tryz.ntmps31
  go_wp2_with fail
  go_end0
  exact ⟨rfl, HP.out, (Below.refl g w).setCell (p := ⟨g, 1, none⟩) (Nat.le_refl g) _, fun k t cs hk hkn => hkn.far (p := ⟨g, 1, none⟩) (fun h => hk h.symm) _⟩
 ·have he : fstE e z = e := by unfold fstE; rw [if_neg h0]
  rw [he]
  have g1 : (e == 0) = false := by simp; exact h0
  have HP := Lib.hid h
  clear h he h0
  go_enter Tryz.func31, Tryz.ntmps31
  go_wp2_with fail
  go_end0
  exact ⟨rfl, HP.out, Below.refl _ _, fun k t cs hk hkn => hkn⟩
theorem cresult_any (s : ByteArray) (z : Int) {g : Nat} {w : World} {p : Option Addr} {c : Nat} {l : List ByteArray} {e : Int} (h : CK g w p c l e) :
  Calls Tryz.prog 26 #[.pointer (some ⟨g, 0, none⟩), .string s, .int .i64 z] w fun E w' => E = .returned (.string s) ∧ CK g w' p c l (fstE e z) ∧ Below g w w' := by
 have hC := cfail_any z h
 have HC := Lib.hid hC
 clear hC h
 go_enter Tryz.func26, Tryz.ntmps26
 go_wp2_with fail
 refine HC.out.mono ?_
 rintro E w1 ⟨rfl, hk, hb, -⟩
 have HK := Lib.hid hk
 clear hk
 go_wp2_with fail
 go_ret
 exact ⟨rfl, HK.out, hb⟩
def IntP (l : List ByteArray) (i : Nat) (emp n z : Int) : Prop := ∀ (g : Nat) (w : World) (p : Option Addr) (c : Nat) (e : Int), CK g w p c l e →
 Calls Tryz.prog 60 #[.pointer (some ⟨g, 0, none⟩), .int .i64 (i : Int), .int .i64 emp] w fun E w' => E = .returned (.int .i64 n) ∧ CK g w' p c l (fstE e z) ∧ Below g w w'
theorem arg_empty {s : ByteArray} (h : s.size = 0) : s = ⟨#[]⟩ := bytes_ext (List.length_eq_zero_iff.1 (by have : s.data.toList.length = s.size := (by simp); omega))
theorem intP_empty (l : List ByteArray) (i : Nat) (emp : Int) (hi : i ≤ 1000) (hl : Sml l) (h0 : (argV l i).size = 0) : IntP l i emp emp 0 := by
 intro g w p c e h
 have hC := carg_any i hi h hl
 rw [arg_empty h0] at hC
 rw [fstE_zero]
 have HK := Lib.hid h
 have hlt := Nat.le_of_lt h.lt
 clear h h0
 go_enter Tryz.func60, Tryz.ntmps60
 go_wp2_with fail
 refine hC.mono ?_
 rintro E w1 ⟨rfl, hb⟩
 go_wp2_with fail
 go_ret
 exact ⟨rfl, HK.out.on hb, hb.mono hlt⟩
theorem intP_num (l : List ByteArray) (i : Nat) (emp x d z : Int) (hi : i ≤ 1000) (hl : Sml l) (h0 : 0 < (argV l i).size) (hP : Ret 112 #[.string (argV l i)] (x, d, z)) :
  IntP l i emp x (if z = 0 ∧ d ≠ 1 then 7 else z) := by
 intro g w p c e h
 have hC := carg_any i hi h hl
 unfold Ret at hP
 simp only at hP
 generalize argV l i = s at *
 have hse : s.toList.isEmpty = false := isEmpty_cons (first_cons s h0)
 have HK := Lib.hid h
 have HP := Lib.hid hP
 have hlt := h.lt
 have HLT := Lib.hid (Nat.le_of_lt hlt)
 obtain ⟨Z, hZ⟩ : ∃ Z, Z = (if z = 0 ∧ d ≠ 1 then 7 else z) := ⟨_, rfl⟩
 rw [← hZ]
 clear h hP hlt
 go_enter Tryz.func60, Tryz.ntmps60
 go_wp2_with fail
 refine hC.mono ?_
 rintro E w1 ⟨rfl, hb1⟩
 have hk1 := HK.out.on hb1
 have HB1 := Lib.hid hb1
 have HK1 := Lib.hid hk1
 clear hb1 hk1 HK
 go_wp2_with fail
 refine (HP.out _).mono ?_
 rintro E w2 ⟨rfl, hb2⟩
 have hk2 := HK1.out.on hb2
 have hg2 := hk2.lt
 have hbx := (HB1.out.then_ hb2).mono HLT.out
 have KN := Known.made w2 50 #[.int .i64 x, .int .i64 d]
 have hk3 := hk2.on (below_new0 w2 (.cells #[.int .i64 x, .int .i64 d] 50))
 have hbz := hbx.trans ((below_new0 w2 (.cells #[.int .i64 x, .int .i64 d] 50)).mono (Nat.le_of_lt hg2))
 obtain ⟨c0, c1⟩ := KN.two
 have HKN := Lib.hid KN
 have HK3 := Lib.hid hk3
 have HBZ := Lib.hid hbz
 have hne : g ≠ w2.heap.size := by omega
 clear hb2 hk2 hbx hk3 hbz KN HK1 HB1
 have hF := fun z => cfail_any z HK3.out
 have HF := Lib.hid hF
 clear hF
 by_cases h1 : z = 0
 ·subst h1
  by_cases h2 : d = 1
  ·have hZ2 : Z = 0 := by rw [hZ, if_neg (fun h => h.2 h2)]
   subst h2
   subst hZ2
   clear hZ
   go_wp2_with fail
   refine (HF.out _).mono ?_
   rintro E w4 ⟨rfl, hk4, hb4, hkk⟩
   obtain ⟨q0, q1⟩ := (hkk _ _ _ hne HKN.out).two
   have hlt4 := (hkk _ _ _ hne HKN.out).lt
   have HK4 := Lib.hid hk4
   have HB4 := Lib.hid (HBZ.out.trans hb4)
   clear hk4 hb4 hkk c0 c1
   go_wp2_with fail
   go_ret
   exact ⟨rfl, HK4.out, HB4.out⟩
  ·have hZ2 : Z = 7 := by rw [hZ, if_pos ⟨rfl, h2⟩]
   have g1 : (d != 1) = true := by simp; exact h2
   subst hZ2
   clear hZ h2
   go_wp2_with fail
   refine (HF.out _).mono ?_
   rintro E w4 ⟨rfl, hk4, hb4, hkk⟩
   obtain ⟨q0, q1⟩ := (hkk _ _ _ hne HKN.out).two
   have hlt4 := (hkk _ _ _ hne HKN.out).lt
   have HK4 := Lib.hid hk4
   have HB4 := Lib.hid (HBZ.out.trans hb4)
   clear hk4 hb4 hkk c0 c1
   go_wp2_with fail
   go_ret
   exact ⟨rfl, HK4.out, HB4.out⟩
 ·have hZ2 : Z = z := by rw [hZ, if_neg (fun h => h1 h.1)]
  have g1 : (z == 0) = false := by simp; exact h1
  subst hZ2
  clear hZ h1
  go_wp2_with fail
  refine (HF.out _).mono ?_
  rintro E w4 ⟨rfl, hk4, hb4, hkk⟩
  obtain ⟨q0, q1⟩ := (hkk _ _ _ hne HKN.out).two
  have hlt4 := (hkk _ _ _ hne HKN.out).lt
  have HK4 := Lib.hid hk4
  have HB4 := Lib.hid (HBZ.out.trans hb4)
  clear hk4 hb4 hkk c0 c1
  go_wp2_with fail
  go_ret
  exact ⟨rfl, HK4.out, HB4.out⟩
end Go.Proofs.YtcklofamaooegaaGreatDoor
