/-
  The claim's own texts, packed. Conditions: those typed in each theorem.
-/
import Derived.Test.YthieinfonomeeaaGreatDoorZRab
import Derived.Test.YthieinfonomeeaaGreatDoorZAad
import Derived.Test.YthieinfonomeeaaGreatDoorZAax
namespace Go.Proofs.YthieinfonomeeaaGreatDoor
open Go.RowKit Doc Tit Inl
set_option linter.unusedVariables false
attribute [local go_sem ↓] Go.wp_at_zero Go.wp_at_succ
def occL (l t : List UInt8) : List Nat → Nat → List Nat
 | [], _ => []
 | p :: Q, e => if e ≤ p ∧ Lib.hasPrefix (l.drop p) t = true then p :: occL l t Q (p + t.length) else occL l t Q e
def divL (l t : List UInt8) : List Nat → Nat → List (List UInt8)
 | [], f => [l.drop f]
 | o :: r, f => ((l.take o).drop f) :: divL l t r (o + t.length)
theorem occL_len (l t : List UInt8) : ∀ (Q : List Nat) (e : Nat), (occL l t Q e).length ≤ Q.length
 | [], _ => Nat.le_refl _
 | p :: Q, e => by
   rw [occL]
   split
   ·rw [List.length_cons, List.length_cons]; have := occL_len l t Q (p + t.length); omega
   ·rw [List.length_cons]; have := occL_len l t Q e; omega
theorem pre_le {l t : List UInt8} {p : Nat} (h : Lib.hasPrefix (l.drop p) t = true) (ht : 1 ≤ t.length) : p + t.length ≤ l.length := by
 have h1 := hp_le h
 rw [List.length_drop] at h1
 omega
theorem occL_at (l t : List UInt8) (ht : 1 ≤ t.length) : ∀ (Q : List Nat) (e : Nat), ∀ p ∈ occL l t Q e, e ≤ p ∧ p + t.length ≤ l.length ∧ Lib.hasPrefix (l.drop p) t = true
 | [], _, p, h => by cases h
 | q :: Q, e, p, h => by
   rw [occL] at h
   split at h
   ·rename_i hc
    rcases List.mem_cons.1 h with rfl | h
    ·exact ⟨hc.1, pre_le hc.2 ht, hc.2⟩
    ·have := occL_at l t ht Q _ p h
     exact ⟨by omega, this.2⟩
   ·exact occL_at l t ht Q e p h
theorem get_elem (s : ByteArray) (k : Nat) (h : k < s.size) : s.get! k = s[k]'h := by
 have := get_at s k h
 rwa [Nat.add_zero] at this
theorem decode_cont (s : ByteArray) (pos k : Nat) (h1 : pos < k) (h2 : k < pos + (Utf8.decode s pos).2) : ∃ h : k < s.size, 128 ≤ (s[k]'h).toNat := by
 have key : ∀ j, (decide (pos + j < s.size) && ((s.get! (pos + j)).toNat / 64 == 2)) = true → k = pos + j → ∃ h : k < s.size, 128 ≤ (s[k]'h).toNat := fun j hj e => by
  subst e
  rw [Bool.and_eq_true] at hj
  have ha := of_decide_eq_true hj.1
  have hb : (s.get! (pos + j)).toNat / 64 = 2 := by simpa using hj.2
  rw [get_elem s _ ha] at hb
  exact ⟨ha, by omega⟩
 simp only [Utf8.decode] at h2
 split at h2
 ·exact absurd h2 (by simp; omega)
 ·split at h2
  ·rename_i hc
   rw [Bool.and_eq_true] at hc
   split at h2
   ·exact key 1 hc.2 (by simp at h2; omega)
   ·exact absurd h2 (by simp; omega)
  ·split at h2
   ·rename_i hc
    rw [Bool.and_eq_true, Bool.and_eq_true] at hc
    split at h2
    ·rcases (show k = pos + 1 ∨ k = pos + 2 by simp at h2; omega) with e | e
     ·exact key 1 hc.1.2 e
     ·exact key 2 hc.2 e
    ·exact absurd h2 (by simp; omega)
   ·split at h2
    ·rename_i hc
     rw [Bool.and_eq_true, Bool.and_eq_true, Bool.and_eq_true] at hc
     split at h2
     ·rcases (show k = pos + 1 ∨ k = pos + 2 ∨ k = pos + 3 by simp at h2; omega) with e | e | e
      ·exact key 1 hc.1.1.2 e
      ·exact key 2 hc.1.2 e
      ·exact key 3 hc.2 e
     ·exact absurd h2 (by simp; omega)
    ·exact absurd h2 (by simp; omega)
theorem ascii_in (s : ByteArray) (p : Nat) (hp : p < s.size) (ha : (s[p]'hp).toNat < 128) : ∀ (f pos : Nat), pos ≤ p → s.size ≤ pos + f → p ∈ rst s f pos
 | 0, pos, h1, h2 => by omega
 | f + 1, pos, h1, h2 => by
   rw [rst_step s f pos (by omega)]
   by_cases e : p = pos
   ·rw [e]; exact List.mem_cons_self
   ·have hw := width_pos s pos (by omega)
    refine List.mem_cons_of_mem _ (ascii_in s p hp ha f _ ?_ (by omega))
    by_cases hlt : p < pos + (Utf8.decode s pos).2
    ·obtain ⟨h3, h4⟩ := decode_cont s pos p (by omega) hlt
     omega
    ·omega
theorem ascii_st {s : ByteArray} {p : Nat} (hp : p < s.size) (ha : (s[p]'hp).toNat < 128) : p ∈ stL s := List.mem_append_left _ (ascii_in s p hp ha _ _ (Nat.zero_le _) (by omega))
set_option maxRecDepth 10000 in
set_option maxHeartbeats 1000000 in
theorem rat_any (s t : ByteArray) (i : Nat) (w : World) (hs : s.size ≤ 1000000000) (ht : t.size ≤ 1000000000) (hi : i ≤ s.size) : Calls Tryz.prog 156 #[.string s, .int .i64 i, .string t] w fun e w' => e = .returned (.bool (Lib.hasPrefix (s.data.toList.drop i) t.data.toList)) ∧ w = w' := by
 by_cases h : i + t.size ≤ s.size
 ·have hp := part_eq s t i h
  generalize Lib.hasPrefix (s.data.toList.drop i) t.data.toList = b at hp ⊢
  have g2 : decide ((t.size : Int) ≤ (s.size : Int) - (i : Int)) = true := by simp; omega
  go_enter Tryz.func156, Tryz.ntmps156
  go_wp2_with fail
  go_ret
  exact ⟨rfl, rfl⟩
 ·have hp := part_no s t i (by omega) hi
  rw [hp]
  have g2 : decide ((t.size : Int) ≤ (s.size : Int) - (i : Int)) = false := by simp; omega
  clear hp
  go_enter Tryz.func156, Tryz.ntmps156
  go_wp2_with fail
  go_ret
  exact ⟨rfl, rfl⟩
set_option maxRecDepth 10000 in
set_option maxHeartbeats 2000000 in
theorem rocc_any (s t : ByteArray) (w : World) (hs : s.size ≤ 100000000) (ht : t.size ≤ 100000000) (ht1 : 1 ≤ t.size) : Calls Tryz.prog 132 #[.string s, .string t] w fun e w' => ∃ p c, e = .returned (.slice p (occL s.data.toList t.data.toList (stL s) 0).length c) ∧ NSL w' p c (occL s.data.toList t.data.toList (stL s) 0) ∧ Below w.heap.size w w' := by
 have hS := rstarts_any s w hs
 have hA := fun i W hi => rat_any s t i W (by omega) (by omega) hi
 have hsl := stL_len s
 have hle : ∀ (k x : Nat), (stL s)[k]? = some x → x ≤ s.size := fun k x h => stL_le (List.mem_of_getElem? h)
 have hte : t.toList.isEmpty = false := by
  cases hl : t.data.toList with
  | nil =>
    have : t.data.toList.length = t.size := by simp
    rw [hl] at this; simp at this; omega
  | cons a r => exact isEmpty_cons hl
 have htl : t.data.toList.length = t.size := by simp
 obtain ⟨l, hl⟩ : ∃ l, l = s.data.toList := ⟨_, rfl⟩
 obtain ⟨u, hu⟩ : ∃ u, u = t.data.toList := ⟨_, rfl⟩
 rw [← hl, ← hu] at hA ⊢
 rw [← hu] at htl
 obtain ⟨ST, hST⟩ : ∃ ST, ST = stL s := ⟨_, rfl⟩
 rw [← hST] at hS hsl hle ⊢
 obtain ⟨n, hn⟩ : ∃ n, n = ST.length := ⟨_, rfl⟩
 rw [← hn] at hS hsl
 have HS := Lib.hid hS
 have HA := Lib.hid hA
 have HLE := Lib.hid hle
 have HN := Lib.hid hn
 have HTL := Lib.hid htl
 clear hS hA hle hl hu hST hn htl
 go_enter Tryz.func132, Tryz.ntmps132
 go_wp2_with fail
 refine HS.out.mono ?_
 rintro e w1 ⟨p, c, rfl, hns, hb1⟩
 have hcap := hns.1
 rw [← HN.out] at hcap
 have HNS := Lib.hid hns
 have HB1 := Lib.hid hb1
 clear hns hb1 HS
 go_wp2_with fail
 go_loopg [5, 7, 8] (n + 1) (fun g s5 s7 s8 wr => ∃ (k e : Nat) (A : List Nat), s8 = .int .i64 k ∧ s7 = .int .i64 e ∧ k ≤ n ∧ n < k + g ∧ e ≤ 200000000 ∧ A.length ≤ k ∧ A ++ occL l u (ST.drop k) e = occL l u ST 0 ∧ nS.own 3 (fun _ => False) w1.heap.size wr s5 A ∧ Below w1.heap.size w1 wr)
 case atStart => exact ⟨0, 0, [], rfl, rfl, by omega, by omega, by omega, Nat.le_refl _, rfl, Shp.own.nil, Below.refl _ _⟩
 case round =>
  obtain ⟨k, e, A, rfl, rfl, hkn, hg, he, hAk, hAA, hown, hb⟩ := hrel
  by_cases hk : k < n
  ·obtain ⟨x, hx⟩ : ∃ x, ST[k]? = some x := ⟨_, List.getElem?_eq_getElem (by rw [← HN.out]; exact hk)⟩
   obtain ⟨b, o, rfl, hbl, hcc⟩ := HNS.out.all (by rw [← HN.out]; omega)
   have hxs := HLE.out k x hx
   have d0 := (hb.cell (p := ⟨b, o + k, none⟩) hbl).trans (hcc k x hx)
   have hz := hb.size
   have hbl2 : b < wr.heap.size := by omega
   have g1 : decide (k < n) = true := decide_eq_true hk
   have hdk : ST.drop k = x :: ST.drop (k + 1) := by
    rw [List.drop_eq_getElem_cons (by rw [← HN.out]; exact hk)]
    congr 1
    exact Option.some.inj ((List.getElem?_eq_getElem _).symm.trans hx)
   rw [hdk, occL] at hAA
   have hAx := fun W => HA.out x W hxs
   obtain ⟨v1, hv1⟩ : ∃ v, decide (e ≤ x) = v := ⟨_, rfl⟩
   obtain ⟨v2, hv2⟩ : ∃ v, Lib.hasPrefix (l.drop x) u = v := ⟨_, rfl⟩
   rw [hv2] at hAx
   have g2 : decide ((e : Int) ≤ (x : Int)) = v1 := by rw [← hv1, Bool.eq_iff_iff]; simp
   have HAX := Lib.hid hAx
   have HAA := Lib.hid hAA
   have HB := Lib.hid hb
   have HO := Lib.hid hown
   have HV1 := Lib.hid hv1
   have HV2 := Lib.hid hv2
   clear hAx hAA hb hown hdk hx hcc hv2
   go_upto_region 9 with fail
   go_cut [33] from 19 to 33 (fun s33 wc => s33 = .bool (v1 && v2) ∧ wr = wc)
   case first =>
    cases v1 with
    | true =>
      go_wp2_with fail
      refine (HAX.out _).mono ?_
      rintro e w2 ⟨rfl, rfl⟩
      go_wp2_with fail
      go_meet
      case rel => exact ⟨rfl, rfl⟩
    | false =>
      go_wp2_with fail
      go_meet
      case rel => exact ⟨rfl, rfl⟩
   case rest =>
    obtain ⟨rfl, rfl⟩ := hcut
    obtain ⟨v, hv⟩ : ∃ v, (v1 && v2) = v := ⟨_, rfl⟩
    rw [hv]
    have hif : v = true ↔ e ≤ x ∧ Lib.hasPrefix (l.drop x) u = true := by
     rw [← hv, Bool.and_eq_true, ← HV1.out, decide_eq_true_eq, HV2.out]
    have HIF := Lib.hid hif
    clear hif hv g2 hv1
    cases v with
    | true =>
      have haa := HAA.out
      rw [if_pos (HIF.out.1 rfl)] at haa
      have haa2 : (A ++ [x]) ++ occL l u (ST.drop (k + 1)) (x + u.length) = occL l u ST 0 := by rw [← haa]; simp
      rw [HTL.out] at haa2
      have HA2 := Lib.hid haa2
      have hoA := HO.out.below (below_new0 wr (.cells #[.int .i64 (x : Int)] 3))
      have HOA := Lib.hid hoA
      have hlenA : nS.len A = A.length := rfl
      have hzW : w1.heap.size ≤ (wr.alloc (.cells #[.int .i64 (x : Int)] 3)).heap.size := by rw [World.size_alloc]; omega
      have f0 := ((below_new0 wr (.cells #[.int .i64 (x : Int)] 3)).cell (p := ⟨b, o + k, none⟩) hbl2).trans d0
      have hc1 := HNS.out
      clear haa haa2 hoA HAA HO
      go_wp2_with (at_builtin; go_must (refine append_shp nS tyN _ rfl _ _ rfl HOA.out rfl (src_n (n := x)) rfl (by rw [hlenA]; show (A.length + 1) * 9 ≤ _; omega) hzW ?_); intro v' w4 O4 hgrow hbel hkd; have hbn := hbel w1 (below_then HB.out (below_new0 _ _)); have d4 := (hbn.cell (p := ⟨b, o + k, none⟩) hbl).trans ((HB.out.cell (p := ⟨b, o + k, none⟩) hbl).symm.trans d0); have hbl4 : b < w4.heap.size := Nat.lt_of_lt_of_le hbl hbn.size)
      have O5 : nS.own 3 (fun _ => False) w1.heap.size w4 v' (A ++ [x]) := O4
      clear hgrow hbel hkd O4
      go_roundg (n - k)
      case measure => omega
      case rel => exact ⟨k + 1, x + t.size, A ++ [x], by go_num, by go_num, by omega, by omega, by omega, by rw [List.length_append]; show A.length + 1 ≤ _; omega, HA2.out, O5, hbn⟩
    | false =>
      have haa := HAA.out
      rw [if_neg (fun h => by have := HIF.out.2 h; cases this)] at haa
      have HA2 := Lib.hid haa
      clear haa HAA
      go_wp2_with fail
      go_roundg (n - k)
      case measure => omega
      case rel => exact ⟨k + 1, e, A, by go_num, rfl, by omega, by omega, by omega, by omega, HA2.out, HO.out, HB.out⟩
  ·have hke : k = n := by omega
   subst hke
   have g1 : decide (k < k) = false := by simp
   have hfin : A = occL l u ST 0 := by
    rw [← hAA, List.drop_eq_nil_of_le (by rw [← HN.out]; exact Nat.le_refl _)]
    simp [occL]
   obtain ⟨p', c', hvv⟩ := hown.form
   replace hvv : u5 = .slice p' A.length c' := hvv
   have h4 := hown.sl
   rw [hvv] at h4
   have h5 := NSL.of_sl h4
   subst hvv
   have HF := Lib.hid hfin
   have H5 := Lib.hid h5
   have hbb := below_then HB1.out hb
   clear hfin h4 h5 hown hAA hb hk
   go_wp2_with fail
   go_ret
   exact ⟨p', c', by rw [← HF.out]; rfl, by rw [← HF.out]; exact H5.out, hbb⟩
end Go.Proofs.YthieinfonomeeaaGreatDoor
