/-
  The claim's own texts, packed. Conditions: those typed in each theorem.
-/
import Derived.Test.YtcklofamaooegaaGreatDoorZKabq
import Derived.Test.YtcklofamaooegaaGreatDoorZKabp
import Derived.LoopN
import Derived.BigQuiet
import Derived.Lib.Repeat
set_option maxHeartbeats 4000000
set_option maxRecDepth 10000
set_option linter.unusedVariables false
namespace Go.Proofs.YtcklofamaooegaaGreatDoor
open Go.RowKit
attribute [local go_sem ↓] Go.wp_at_zero Go.wp_at_succ
def St (g : Nat) (w0 w : World) (p : Option Addr) (c : Nat) (l : List ByteArray) (e : Int) : Prop := CK g w p c l e ∧ Below g w0 w
section
variable {g : Nat} {w0 w w' : World} {p : Option Addr} {c : Nat} {l : List ByteArray} {e : Int}
theorem St.on (h : St g w0 w p c l e) (hb : Below w.heap.size w w') : St g w0 w' p c l e := ⟨h.1.on hb, h.2.trans (hb.mono (Nat.le_of_lt h.1.lt))⟩
theorem St.env (h : St g w0 w p c l e) : Env w := h.1.get
theorem St.lt (h : St g w0 w p c l e) : g < w.heap.size := h.1.lt
theorem st_raw (i : Nat) (hi : i ≤ 1000) (h : St g w0 w p c l e) (hl : Sml l) : Calls Tryz.prog 51 #[.pointer (some ⟨g, 0, none⟩), .int .i64 (i : Int)] w fun E w' => E = .returned (.string (rawV l i)) ∧ St g w0 w' p c l e :=
 (craw_any i hi h.1 hl).mono fun E w' ⟨a, b⟩ => ⟨a, b ▸ h⟩
theorem st_arg (i : Nat) (hi : i ≤ 1000) (h : St g w0 w p c l e) (hl : Sml l) : Calls Tryz.prog 24 #[.pointer (some ⟨g, 0, none⟩), .int .i64 (i : Int)] w fun E w' => E = .returned (.string (argV l i)) ∧ St g w0 w' p c l e :=
 (carg_any i hi h.1 hl).mono fun E w' ⟨a, b⟩ => ⟨a, h.on b⟩
theorem st_fail (z : Int) (h : St g w0 w p c l e) : Calls Tryz.prog 31 #[.pointer (some ⟨g, 0, none⟩), .int .i64 z] w fun E w' => E = .returned (.tuple #[]) ∧ St g w0 w' p c l (fstE e z) ∧ ∀ k t cs, g ≠ k → Known w k t cs → Known w' k t cs :=
 (cfail_any z h.1).mono fun E w' ⟨a, b, d, k⟩ => ⟨a, ⟨b, h.2.trans d⟩, k⟩
theorem st_result (s : ByteArray) (z : Int) (h : St g w0 w p c l e) : Calls Tryz.prog 26 #[.pointer (some ⟨g, 0, none⟩), .string s, .int .i64 z] w fun E w' => E = .returned (.string s) ∧ St g w0 w' p c l (fstE e z) :=
 (cresult_any s z h.1).mono fun E w' ⟨a, b, d⟩ => ⟨a, b, h.2.trans d⟩
theorem st_int {i : Nat} {emp n z : Int} (hI : IntP l i emp n z) (h : St g w0 w p c l e) : Calls Tryz.prog 60 #[.pointer (some ⟨g, 0, none⟩), .int .i64 (i : Int), .int .i64 emp] w fun E w' => E = .returned (.int .i64 n) ∧ St g w0 w' p c l (fstE e z) :=
 (hI g w p c e h.1).mono fun E w' ⟨a, b, d⟩ => ⟨a, b, h.2.trans d⟩
end
theorem fstE_assoc (e y z : Int) : fstE (fstE e y) z = fstE e (fstE y z) := by
 unfold fstE
 by_cases h : e = 0
 ·rw [if_pos h, if_pos h]
 ·rw [if_neg h, if_neg h, if_neg h]
theorem fndN_bd (s t : ByteArray) (i : Nat) : fndN s t i = -1 ∨ (0 ≤ fndN s t i ∧ fndN s t i ≤ s.size) := by
 unfold fndN
 cases h : fndL s.data.toList t.data.toList ((stL s).drop i) with
 | none => exact .inl rfl
 | some k =>
   obtain ⟨q, hq, -⟩ := fndL_some _ k h
   rw [List.getElem?_drop] at hq
   have h1 := (List.getElem?_eq_some_iff.1 hq).1
   have h2 := stL_len s
   exact .inr ⟨by simp only; omega, by simp only; omega⟩
theorem prod_bd {K : Nat} {a b : Nat} (h1 : K ≤ 1000001) (h2 : a ≤ 1000000) (h3 : b ≤ 1000000) : -1000001000000 ≤ (K : Int) * ((a : Int) - b) ∧ (K : Int) * ((a : Int) - b) ≤ 1000001000000 := by
 have e : (K : Int) * ((a : Int) - b) = ((K * a : Nat) : Int) - ((K * b : Nat) : Int) := by rw [Int.mul_sub, Int.natCast_mul, Int.natCast_mul]
 have e1 : K * a ≤ 1000001 * 1000000 := Nat.mul_le_mul h1 h2
 have e2 : K * b ≤ 1000001 * 1000000 := Nat.mul_le_mul h1 h3
 omega
theorem sreplace_any (s t u : ByteArray) (m : Int) (w : World) (hs : s.size ≤ 1000000) (ht : t.size ≤ 1000000) (hu : u.size ≤ 1000000) (hm : -9223372036854775808 ≤ m ∧ m ≤ 9223372036854775807) (hmx : MX w) :
  Calls Tryz.prog 79 #[.string s, .string t, .string u, .int .i64 m] w fun e w' => e = .returned (.tuple #[.string (repV s t u m).1, .int .i64 (repV s t u m).2]) ∧ Below w.heap.size w w' := by
 have hO := sall_any s t w (by omega) (by omega) hmx
 have hok := occS_ok s t
 have hol := occS_len s t
 have hRT : repT s t u m = repL s.data.toList u.data.toList t.size ((occS s t).take (repN (occS s t).length m)) 0 := rfl
 have hRV : repV s t u m = if (repT s t u m).length ≤ 32768 then (⟨(repT s t u m).toArray⟩, 0) else (⟨#[]⟩, 3) := rfl
 have hsl : s.data.toList.length = s.size := by simp
 have hxd := ext_data s
 have hKl := repN_le (occS s t).length m
 obtain ⟨K, hK⟩ : ∃ K, K = repN (occS s t).length m := ⟨_, rfl⟩
 rw [← hK] at hRT hKl
 unfold repN at hK
 obtain ⟨Q, hQ⟩ : ∃ Q, Q = occS s t := ⟨_, rfl⟩
 rw [← hQ] at hO hok hol hRT hK hKl
 have hok2 := hok.take K
 have hQl : (Q.take K).length = K := by rw [List.length_take]; omega
 obtain ⟨n, hn⟩ : ∃ n, n = Q.length := ⟨_, rfl⟩
 rw [← hn] at hO hol hK hKl
 obtain ⟨R, hR⟩ : ∃ R, R = repT s t u m := ⟨_, rfl⟩
 rw [← hR] at hRT hRV
 obtain ⟨V, hV⟩ : ∃ V, V = repV s t u m := ⟨_, rfl⟩
 rw [← hV] at hRV ⊢
 obtain ⟨l, hl⟩ : ∃ l, l = s.data.toList := ⟨_, rfl⟩
 rw [← hl] at hRT hsl hxd
 obtain ⟨P, hP⟩ : ∃ P, P = Q.take K := ⟨_, rfl⟩
 rw [← hP] at hRT hok2 hQl
 have HO := Lib.hid hO
 have HOK := Lib.hid hok2
 have HRT := Lib.hid hRT
 have HRV := Lib.hid hRV
 have HSL := Lib.hid hsl
 have HXD := Lib.hid hxd
 have HPL := Lib.hid hQl
 have HPQ := Lib.hid hP
 have HK := Lib.hid hK
 have HN := Lib.hid hn
 clear hO hok hok2 hRT hRV hsl hxd hQl hP hK hn hR hV hl hQ
 go_enter Tryz.func79, Tryz.ntmps79
 go_wp2_with fail
 refine HO.out.mono ?_
 rintro e w1 ⟨p, c, rfl, hns, hb1⟩
 have hcap := hns.1
 rw [← HN.out] at hcap
 have hcap2 := hns.2.1
 have HNS := Lib.hid hns
 have HB1 := Lib.hid hb1
 clear hns hb1 HO
 obtain ⟨b, hb⟩ : ∃ b, b = decide (0 ≤ m ∧ m < n) := ⟨_, rfl⟩
 have HB := Lib.hid hb
 clear hb
 go_upto_region 2 with fail
 go_cut [25] from 18 to 25 (fun s25 wc => s25 = .bool b ∧ w1 = wc)
 case first =>
  by_cases h0 : 0 ≤ m
  ·have g0 : decide (0 ≤ m) = true := decide_eq_true h0
   have hbb := HB.out
   obtain ⟨b2, hb2⟩ : ∃ b2, decide (m < (n : Int)) = b2 := ⟨_, rfl⟩
   have hbe : b = b2 := by rw [hbb, ← hb2]; simp [h0]
   subst hbe
   clear hbb
   go_wp2_with fail
   go_meet
   case rel => exact ⟨rfl, rfl⟩
  ·have g0 : decide (0 ≤ m) = false := decide_eq_false h0
   have hbb := HB.out
   have hbe : b = false := by rw [hbb]; simp [h0]
   subst hbe
   clear hbb
   go_wp2_with fail
   go_meet
   case rel => exact ⟨rfl, rfl⟩
 case rest =>
  obtain ⟨rfl, rfl⟩ := hcut
  go_upto_if 25 with fail
  go_cut [10] from 26 to 28 (fun s10 wc => s10 = .slice p K c ∧ w1 = wc)
  case first =>
   cases b with
   | true =>
     have hbb := HB.out
     have h1 : 0 ≤ m ∧ m < n := of_decide_eq_true hbb.symm
     have hk := HK.out
     rw [if_pos h1] at hk
     have e1 : m = (K : Int) := by omega
     subst e1
     clear hk hbb
     go_wp2_with fail
     go_meet
     case rel => exact ⟨rfl, rfl⟩
   | false =>
     have hbb := HB.out
     have h1 : ¬ (0 ≤ m ∧ m < n) := of_decide_eq_false hbb.symm
     have hk := HK.out
     rw [if_neg h1] at hk
     subst hk
     clear hbb h1
     go_wp2_with fail
     go_meet
     case rel => exact ⟨rfl, rfl⟩
  case rest =>
   obtain ⟨rfl, rfl⟩ := hcut
   have hns2 := HNS.out.take K (by rw [← HN.out]; exact hKl)
   rw [← HPQ.out] at hns2
   have HNS2 := Lib.hid hns2
   clear hns2 HNS HB HK
   have hpb := prod_bd (K := K) (a := u.size) (b := t.size) (by omega) hu ht
   have hRl : (R.length : Int) = (s.size : Int) + K * ((u.size : Int) - t.size) := by
    rw [HRT.out, repL_len (by rw [HSL.out]; exact HOK.out), HPL.out, HSL.out]
    have : u.data.toList.length = u.size := by simp
    rw [this]; omega
   obtain ⟨T, hT⟩ : ∃ T : Int, (s.size : Int) + K * ((u.size : Int) - t.size) = T := ⟨_, rfl⟩
   rw [hT] at hRl
   have HRL := Lib.hid hRl
   clear hRl
   by_cases hz : 32768 < T
   ·have hV : V = (⟨#[]⟩, 3) := by rw [HRV.out, if_neg (by have := HRL.out; omega)]
    have HV := Lib.hid hV
    have e1 : decide (32768 < (s.size : Int) + K * ((u.size : Int) - t.size)) = true := by rw [hT]; exact decide_eq_true hz
    clear hV hz hT
    go_wp2_with fail
    go_ret2
    exact ⟨by rw [HV.out]; rfl, HB1.out⟩
   ·have hV : V = (⟨R.toArray⟩, 0) := by rw [HRV.out, if_pos (by have := HRL.out; omega)]
    have hRs : R.length ≤ 32768 := by have := HRL.out; omega
    have HV := Lib.hid hV
    have e1 : decide (32768 < (s.size : Int) + K * ((u.size : Int) - t.size)) = false := by rw [hT]; exact decide_eq_false hz
    have HT := Lib.hid hT
    clear hV hz hT
    have hB0 := buf_new w1
    have HB0 := Lib.hid hB0
    clear hB0
    go_wp2_with fail
    go_loopg [12, 14, 43] (K + 1) (fun g s12 s14 s43 wr => ∃ (k f : Nat) (L : List UInt8), s12 = .int .i64 f ∧ s43 = .int .i64 k ∧ k ≤ K ∧ K < k + g ∧ L.length ≤ 32768 ∧ f ≤ s.size ∧ L ++ repL l u.data.toList t.size (P.drop k) f = R ∧ OkP s.size t.size (P.drop k) f ∧ Buf w1.heap.size L wr ∧ Below w1.heap.size w1 wr)
    case atStart => exact ⟨0, 0, [], rfl, rfl, by omega, by omega, by simp, by omega, HRT.out.symm, HOK.out, HB0.out, below_new0 _ _⟩
    case round =>
     obtain ⟨k, f, L, rfl, rfl, hkK, hg, hL, hf, hR, hok, hbuf, hbw⟩ := hrel
     have HR := Lib.hid hR
     have HOKK := Lib.hid hok
     have HBUF := Lib.hid hbuf
     have HBW := Lib.hid hbw
     clear hR hok hbuf
     by_cases hk : k < K
     ·have g1 : decide (k < K) = true := decide_eq_true hk
      obtain ⟨x, hx⟩ : ∃ x, P[k]? = some x := ⟨_, List.getElem?_eq_getElem (by rw [HPL.out]; exact hk)⟩
      obtain ⟨b0, o, rfl, hbl, hcc⟩ := HNS2.out.all (by rw [HPL.out]; omega)
      have d0 := (hbw.cell (p := ⟨b0, o + k, none⟩) hbl).trans (hcc k x hx)
      have hbl2 : b0 < wr.heap.size := Nat.lt_of_lt_of_le hbl hbw.size
      have hd := dropN_at hx
      have hok := HOKK.out
      rw [hd] at hok
      have hfx := hok.1
      have hxt := hok.2.le
      have hr := HR.out
      rw [hd, repL_pre] at hr
      obtain ⟨X, hX⟩ : ∃ X, X = s.extract f x := ⟨_, rfl⟩
      have hXd := HXD.out f x
      rw [← hX] at hXd
      have hXs : X.size = x - f := by rw [hX, ByteArray.size_extract]; omega
      have hZd : (s.extract f x ++ u).data.toList = (l.take x).drop f ++ u.data.toList := by rw [← hX, app_data, hXd]
      have hZs : (s.extract f x ++ u).size = (x - f) + u.size := by rw [← hX, ByteArray.size_append, hXs]
      have hC := buf_string _ L (s.extract f x ++ u) wr HBUF.out (by rw [hZs]; omega)
      rw [hZd, ← List.append_assoc] at hC
      have hrl := congrArg List.length hr
      have hL2 : (L ++ (l.take x).drop f ++ u.data.toList).length ≤ 32768 := by
       rw [← List.append_assoc, ← List.append_assoc, List.length_append] at hrl
       omega
      rw [← List.append_assoc, ← List.append_assoc] at hr
      obtain ⟨L2, hL2e⟩ : ∃ L2, L2 = L ++ (l.take x).drop f ++ u.data.toList := ⟨_, rfl⟩
      rw [← hL2e] at hC hL2 hr
      have HR2 := Lib.hid hr
      have HOK2 := Lib.hid hok.2
      have HC := Lib.hid hC
      clear hcc hd hok hr hXd hXs hZd hZs hC hx hX hrl hL2e
      go_wp2_with fail
      refine HC.out.mono ?_
      rintro e w2 ⟨rfl, hb2, hr2⟩
      have HB2 := Lib.hid hb2
      have hbw2 := HBW.out.trans hr2.1
      have HBW2 := Lib.hid hbw2
      clear hb2 hr2 hbw2
      go_wp2_with fail
      go_roundg (K - k)
      case measure => omega
      case rel => exact ⟨k + 1, x + t.size, L2, by go_num, by go_num, by omega, by omega, hL2, hxt, HR2.out, HOK2.out, HB2.out, HBW2.out⟩
     ·have g1 : decide (k < K) = false := decide_eq_false hk
      have hr := HR.out
      rw [List.drop_of_length_le (by rw [HPL.out]; omega), repL] at hr
      have hXd := HXD.out f s.size
      rw [List.take_of_length_le (by rw [HSL.out]; exact Nat.le_refl _)] at hXd
      have hXs : (s.extract f s.size).size = s.size - f := by rw [ByteArray.size_extract]; omega
      have hC := buf_string _ L (s.extract f s.size) wr HBUF.out (by rw [hXs]; omega)
      rw [hXd, hr] at hC
      have HC := Lib.hid hC
      clear hr hXd hXs hC
      go_wp2_with fail
      refine HC.out.mono ?_
      rintro e w2 ⟨rfl, hb2, hr2⟩
      have hT := buf_text _ _ _ hb2
      have HT2 := Lib.hid hT
      have hbw2 := HBW.out.trans hr2.1
      have HBW2 := Lib.hid hbw2
      clear hb2 hr2 hbw2 hT
      go_wp2_with fail
      refine HT2.out.mono ?_
      rintro e w3 ⟨rfl, -, hr3⟩
      have hbw3 := below_then HB1.out (HBW2.out.trans hr3.1)
      clear hr3
      go_wp2_with fail
      go_ret2
      exact ⟨by rw [HV.out]; rfl, hbw3⟩
def chN (u : Bool) (x : Nat) : Nat := if u = true then (if 97 ≤ x ∧ x ≤ 122 then x - 32 else x) else (if 65 ≤ x ∧ x ≤ 90 then x + 32 else x)
theorem chN_lt {u : Bool} {x : Nat} (h : x < 256) : chN u x < 256 := by unfold chN; split <;> split <;> omega
def chC (u : Bool) (c : UInt8) : UInt8 := UInt8.ofNat (chN u c.toNat)
theorem chC_nat (u : Bool) (c : UInt8) : (chC u c).toNat = chN u c.toNat := by
 unfold chC
 rw [UInt8.toNat_ofNat']
 exact Nat.mod_eq_of_lt (chN_lt c.toNat_lt)
def casL (u : Bool) : Nat → List UInt8 → List UInt8
 | 0, l => l
 | _ + 1, [] => []
 | n + 1, c :: r => chC u c :: casL u n r
theorem casL_len (u : Bool) : ∀ (n : Nat) (l : List UInt8), (casL u n l).length = l.length
 | 0, l => rfl
 | _ + 1, [] => rfl
 | n + 1, c :: r => by rw [casL, List.length_cons, List.length_cons, casL_len u n r]
theorem casL_at {u : Bool} : ∀ (n : Nat) (l : List UInt8), (casL u n l)[n]? = l[n]?
 | 0, l => rfl
 | _ + 1, [] => rfl
 | n + 1, c :: r => by rw [casL, List.getElem?_cons_succ, List.getElem?_cons_succ, casL_at n r]
theorem casL_step {u : Bool} : ∀ (n : Nat) (l : List UInt8) (c : UInt8), l[n]? = some c → (casL u n l).set n (chC u c) = casL u (n + 1) l
 | 0, [], c, h => by cases h
 | 0, a :: r, c, h => by
   have : a = c := by simpa using h
   subst this; rfl
 | _ + 1, [], c, h => by cases h
 | n + 1, a :: r, c, h => by
   rw [casL, List.set_cons_succ, casL_step n r c (by simpa using h)]; rfl
theorem chC_up {c : UInt8} (h : 65 ≤ c.toNat ∧ c.toNat ≤ 90) : ((chC false c).toNat : Int) = (c.toNat : Int) - 65 + 97 := by
 rw [chC_nat]; unfold chN; rw [if_neg (by decide), if_pos h]; omega
theorem chC_lo {c : UInt8} (h : 97 ≤ c.toNat ∧ c.toNat ≤ 122) : ((chC true c).toNat : Int) = (c.toNat : Int) - 97 + 65 := by
 rw [chC_nat]; unfold chN; rw [if_pos rfl, if_pos h]; omega
theorem chC_id0 {c : UInt8} (h : ¬ (65 ≤ c.toNat ∧ c.toNat ≤ 90)) : chC false c = c := by
 unfold chC chN; rw [if_neg (by decide), if_neg h, UInt8.ofNat_toNat]
theorem chC_id1 {c : UInt8} (h : ¬ (97 ≤ c.toNat ∧ c.toNat ≤ 122)) : chC true c = c := by
 unfold chC chN; rw [if_pos rfl, if_neg h, UInt8.ofNat_toNat]
theorem casL_keep {u : Bool} (k : Nat) (l : List UInt8) (c : UInt8) (hc : l[k]? = some c) (h : chC u c = c) : casL u (k + 1) l = casL u k l := by
 rw [← casL_step k l c hc, h]
 have := casL_at (u := u) k l
 rw [hc] at this
 exact List.ext_getElem? fun j => by
  rw [List.getElem?_set]
  split
  ·rename_i e; subst e
   have hl := (List.getElem?_eq_some_iff.1 this).1
   rw [if_pos hl, this]
  ·rfl
theorem slower_ch (s : ByteArray) (w : World) (hs : s.size ≤ 100000000) : Calls Tryz.prog 139 #[.string s, .int .u8 65, .int .u8 97] w fun e w' => e = .returned (.string ⟨(casL false s.size s.data.toList).toArray⟩) ∧ Below w.heap.size w w' := by
 obtain ⟨cap, C, hc1, hc2, hcv, hB, hbl⟩ := conv_to w s (by unfold maxLen; omega)
 have hz : s.data.toList.length = s.size := by simp
 obtain ⟨l, hl⟩ : ∃ l, l = s.data.toList := ⟨_, rfl⟩
 rw [← hl] at hB hz ⊢
 obtain ⟨N, hN⟩ : ∃ N, N = s.size := ⟨_, rfl⟩
 rw [← hN] at hcv hc1 hz hs ⊢
 have hc3 : cap ≤ 9223372036854775807 := by unfold maxLen at hc2; omega
 have hback := fun W h => @conv_from W w.heap.size (casL false N l) h N cap (by rw [casL_len]; exact hz.symm)
 have HBK := Lib.hid hback
 have HB := Lib.hid hB
 have HBL := Lib.hid hbl
 have HZ := Lib.hid hz
 clear hback hB hbl hl hN hc2 hz
 go_enter Tryz.func139, Tryz.ntmps139
 go_wp2_with fail
 go_loopg [8, 9, 14] (N + 1) (fun g s8 s9 s14 wr => ∃ k : Nat, k ≤ N ∧ N < k + g ∧ s14 = .int .i64 k ∧ BIn wr w.heap.size (casL false k l) ∧ Below w.heap.size w wr)
 case atStart => exact ⟨0, by omega, by omega, rfl, HB.out, HBL.out⟩
 case round =>
  obtain ⟨k, hkN, hg, rfl, hb, hbw⟩ := hrel
  have HBN := Lib.hid hb
  have HBW := Lib.hid hbw
  have hgb := hb.1
  clear hb hbw
  by_cases h1 : k < N
  ·have g1 : decide (k < N) = true := decide_eq_true h1
   have hkl : k < l.length := by rw [HZ.out]; exact h1
   have hkl2 : k < (casL false k l).length := by rw [casL_len]; exact hkl
   have hat := HBN.out.2 k hkl2
   have hlk := List.getElem?_eq_getElem hkl
   have he : (casL false k l)[k]'hkl2 = l[k] := by
    have := casL_at (u := false) k l
    rw [List.getElem?_eq_getElem hkl2, List.getElem?_eq_getElem hkl] at this
    exact Option.some.inj this
   rw [he] at hat
   obtain ⟨hc, hf⟩ := hat
   have hput := HBN.out.put hkl2 (chC false l[k])
   rw [casL_step k l l[k] hlk] at hput
   have hkeep := casL_keep (u := false) k l l[k] hlk
   have hup := @chC_up l[k]
   have hid := @chC_id0 l[k]
   have hx8 := l[k].toNat_lt
   obtain ⟨c, hcc⟩ : ∃ c, c = l[k] := ⟨_, rfl⟩
   rw [← hcc] at hc hput hkeep hup hid hx8
   clear hcc he hkl2 hlk
   obtain ⟨x, hx⟩ : ∃ x, x = c.toNat := ⟨_, rfl⟩
   rw [← hx] at hc hx8 hup hid
   have HPUT := Lib.hid hput
   have HKEEP := Lib.hid hkeep
   have HUP := Lib.hid hup
   have HID := Lib.hid hid
   clear hput hkeep hup hid hx
   by_cases h2 : 65 ≤ x
   ·have g2 : decide ((65 : Int) ≤ (x : Int)) = true := by simp; omega
    by_cases h3 : x ≤ 90
    ·have g3 : decide ((x : Int) < 91) = true := by simp; omega
     have hpp := HPUT.out
     rw [HUP.out ⟨h2, h3⟩] at hpp
     have HPP := Lib.hid hpp
     have e1 : ((x : Int) - 65) % 256 = (x : Int) - 65 := by omega
     clear hpp
     go_wp2_with fail
     go_roundg (N - k)
     case measure => omega
     case rel => exact ⟨k + 1, by omega, by omega, by go_num, HPP.out, HBW.out.setCell (Nat.le_refl _) _⟩
    ·have g3 : decide ((x : Int) < 91) = false := by simp; omega
     go_wp2_with fail
     go_roundg (N - k)
     case measure => omega
     case rel => exact ⟨k + 1, by omega, by omega, by go_num, by rw [HKEEP.out (HID.out (by omega))]; exact HBN.out, HBW.out⟩
   ·have g2 : decide ((65 : Int) ≤ (x : Int)) = false := by simp; omega
    go_wp2_with fail
    go_roundg (N - k)
    case measure => omega
    case rel => exact ⟨k + 1, by omega, by omega, by go_num, by rw [HKEEP.out (HID.out (by omega))]; exact HBN.out, HBW.out⟩
  ·have g1 : decide (k < N) = false := decide_eq_false h1
   have hkk : k = N := by omega
   subst hkk
   have hcb := HBK.out wr HBN.out
   go_wp2_with fail
   go_ret
   exact ⟨rfl, HBW.out⟩
theorem supper_ch (s : ByteArray) (w : World) (hs : s.size ≤ 100000000) : Calls Tryz.prog 139 #[.string s, .int .u8 97, .int .u8 65] w fun e w' => e = .returned (.string ⟨(casL true s.size s.data.toList).toArray⟩) ∧ Below w.heap.size w w' := by
 obtain ⟨cap, C, hc1, hc2, hcv, hB, hbl⟩ := conv_to w s (by unfold maxLen; omega)
 have hz : s.data.toList.length = s.size := by simp
 obtain ⟨l, hl⟩ : ∃ l, l = s.data.toList := ⟨_, rfl⟩
 rw [← hl] at hB hz ⊢
 obtain ⟨N, hN⟩ : ∃ N, N = s.size := ⟨_, rfl⟩
 rw [← hN] at hcv hc1 hz hs ⊢
 have hc3 : cap ≤ 9223372036854775807 := by unfold maxLen at hc2; omega
 have hback := fun W h => @conv_from W w.heap.size (casL true N l) h N cap (by rw [casL_len]; exact hz.symm)
 have HBK := Lib.hid hback
 have HB := Lib.hid hB
 have HBL := Lib.hid hbl
 have HZ := Lib.hid hz
 clear hback hB hbl hl hN hc2 hz
 go_enter Tryz.func139, Tryz.ntmps139
 go_wp2_with fail
 go_loopg [8, 9, 14] (N + 1) (fun g s8 s9 s14 wr => ∃ k : Nat, k ≤ N ∧ N < k + g ∧ s14 = .int .i64 k ∧ BIn wr w.heap.size (casL true k l) ∧ Below w.heap.size w wr)
 case atStart => exact ⟨0, by omega, by omega, rfl, HB.out, HBL.out⟩
 case round =>
  obtain ⟨k, hkN, hg, rfl, hb, hbw⟩ := hrel
  have HBN := Lib.hid hb
  have HBW := Lib.hid hbw
  have hgb := hb.1
  clear hb hbw
  by_cases h1 : k < N
  ·have g1 : decide (k < N) = true := decide_eq_true h1
   have hkl : k < l.length := by rw [HZ.out]; exact h1
   have hkl2 : k < (casL true k l).length := by rw [casL_len]; exact hkl
   have hat := HBN.out.2 k hkl2
   have hlk := List.getElem?_eq_getElem hkl
   have he : (casL true k l)[k]'hkl2 = l[k] := by
    have := casL_at (u := true) k l
    rw [List.getElem?_eq_getElem hkl2, List.getElem?_eq_getElem hkl] at this
    exact Option.some.inj this
   rw [he] at hat
   obtain ⟨hc, hf⟩ := hat
   have hput := HBN.out.put hkl2 (chC true l[k])
   rw [casL_step k l l[k] hlk] at hput
   have hkeep := casL_keep (u := true) k l l[k] hlk
   have hup := @chC_lo l[k]
   have hid := @chC_id1 l[k]
   have hx8 := l[k].toNat_lt
   obtain ⟨c, hcc⟩ : ∃ c, c = l[k] := ⟨_, rfl⟩
   rw [← hcc] at hc hput hkeep hup hid hx8
   clear hcc he hkl2 hlk
   obtain ⟨x, hx⟩ : ∃ x, x = c.toNat := ⟨_, rfl⟩
   rw [← hx] at hc hx8 hup hid
   have HPUT := Lib.hid hput
   have HKEEP := Lib.hid hkeep
   have HUP := Lib.hid hup
   have HID := Lib.hid hid
   clear hput hkeep hup hid hx
   by_cases h2 : 97 ≤ x
   ·have g2 : decide ((97 : Int) ≤ (x : Int)) = true := by simp; omega
    by_cases h3 : x ≤ 122
    ·have g3 : decide ((x : Int) < 123) = true := by simp; omega
     have hpp := HPUT.out
     rw [HUP.out ⟨h2, h3⟩] at hpp
     have HPP := Lib.hid hpp
     have e1 : ((x : Int) - 97) % 256 = (x : Int) - 97 := by omega
     clear hpp
     go_wp2_with fail
     go_roundg (N - k)
     case measure => omega
     case rel => exact ⟨k + 1, by omega, by omega, by go_num, HPP.out, HBW.out.setCell (Nat.le_refl _) _⟩
    ·have g3 : decide ((x : Int) < 123) = false := by simp; omega
     go_wp2_with fail
     go_roundg (N - k)
     case measure => omega
     case rel => exact ⟨k + 1, by omega, by omega, by go_num, by rw [HKEEP.out (HID.out (by omega))]; exact HBN.out, HBW.out⟩
   ·have g2 : decide ((97 : Int) ≤ (x : Int)) = false := by simp; omega
    go_wp2_with fail
    go_roundg (N - k)
    case measure => omega
    case rel => exact ⟨k + 1, by omega, by omega, by go_num, by rw [HKEEP.out (HID.out (by omega))]; exact HBN.out, HBW.out⟩
  ·have g1 : decide (k < N) = false := decide_eq_false h1
   have hkk : k = N := by omega
   subst hkk
   have hcb := HBK.out wr HBN.out
   go_wp2_with fail
   go_ret
   exact ⟨rfl, HBW.out⟩
def casS (u : Bool) (s : ByteArray) : ByteArray := ⟨(casL u s.size s.data.toList).toArray⟩
def fstS (u : Bool) (s : ByteArray) : ByteArray := ⟨(casL u 1 s.data.toList).toArray⟩
theorem slower_any (s : ByteArray) (w : World) (hs : s.size ≤ 100000000) : Calls Tryz.prog 82 #[.string s] w fun e w' => e = .returned (.string (casS false s)) ∧ Below w.heap.size w w' := by
 have hC := slower_ch s w hs
 have HC := Lib.hid hC
 clear hC
 go_enter Tryz.func82, Tryz.ntmps82
 go_wp2_with fail
 refine HC.out.mono ?_
 rintro e w1 ⟨rfl, hb⟩
 go_wp2_with fail
 go_ret
 exact ⟨rfl, hb⟩
theorem supper_any (s : ByteArray) (w : World) (hs : s.size ≤ 100000000) : Calls Tryz.prog 83 #[.string s] w fun e w' => e = .returned (.string (casS true s)) ∧ Below w.heap.size w w' := by
 have hC := supper_ch s w hs
 have HC := Lib.hid hC
 clear hC
 go_enter Tryz.func83, Tryz.ntmps83
 go_wp2_with fail
 refine HC.out.mono ?_
 rintro e w1 ⟨rfl, hb⟩
 go_wp2_with fail
 go_ret
 exact ⟨rfl, hb⟩
theorem sfirst_any (s : ByteArray) (u : Bool) (w : World) (hs : s.size ≤ 100000000) : Calls Tryz.prog 84 #[.string s, .bool u] w fun e w' => e = .returned (.string (fstS u s)) ∧ Below w.heap.size w w' := by
 by_cases h0 : s.size = 0
 ·have h1 : s = ⟨#[]⟩ := bytes_ext (List.length_eq_zero_iff.1 (by have : s.data.toList.length = s.size := (by simp); omega))
  subst h1
  clear h0
  go_enter Tryz.func84, Tryz.ntmps84
  go_wp2_with fail
  go_ret
  exact ⟨rfl, Below.refl _ _⟩
 ·have hl0 : 0 < s.size := by omega
  have hd := first_cons s hl0
  have he : s.toList.isEmpty = false := isEmpty_cons hd
  have hone : (s.extract 0 1).size = 1 := by rw [ByteArray.size_extract]; omega
  have h1 : (s.extract 0 1).data.toList = [s[0]] := by rw [one_data s 0 hl0]
  have hU := fun W => supper_any (s.extract 0 1) W (by omega)
  have hL := fun W => slower_any (s.extract 0 1) W (by omega)
  have hc : ∀ v : Bool, casS v (s.extract 0 1) ++ s.extract 1 s.size = fstS v s := fun v => by
   apply bytes_ext
   rw [app_data]
   unfold casS fstS
   rw [hone, data_mk, data_mk, h1, hd]
   rfl
  have hcz : ∀ v : Bool, (casS v (s.extract 0 1)).size = 1 := fun v => by unfold casS; rw [Lib.size_mk, casL_len, h1]; rfl
  have hc0 := hc u
  have hcz0 := hcz u
  cases u with
  | true =>
    obtain ⟨X, hX⟩ : ∃ X, X = casS true (s.extract 0 1) := ⟨_, rfl⟩
    rw [← hX] at hU hc0 hcz0
    have HC0 := Lib.hid hc0
    clear hX hc hcz hL hc0 hd h1 h0 hone
    go_enter Tryz.func84, Tryz.ntmps84
    go_wp2_with fail
    refine wp_region_gr (by kernel_rfl) (by kernel_rfl) ?_
    repeat (go_big_quiet_step ((go_at_call 83; exact gr_call (hU _))))
    with_reducible refine wpQuiet_nil ?_
    intro _ hw'; obtain ⟨w6, hw''⟩ := hw'; subst hw''
    have B6 := gr_below w w6
    go_wp2_with fail
    go_ret
    exact ⟨by rw [← HC0.out]; rfl, B6⟩
  | false =>
    obtain ⟨X, hX⟩ : ∃ X, X = casS false (s.extract 0 1) := ⟨_, rfl⟩
    rw [← hX] at hL hc0 hcz0
    have HC0 := Lib.hid hc0
    clear hX hc hcz hU hc0 hd h1 h0 hone
    go_enter Tryz.func84, Tryz.ntmps84
    go_wp2_with fail
    refine wp_region_gr (by kernel_rfl) (by kernel_rfl) ?_
    repeat (go_big_quiet_step ((go_at_call 82; exact gr_call (hL _))))
    with_reducible refine wpQuiet_nil ?_
    intro _ hw'; obtain ⟨w6, hw''⟩ := hw'; subst hw''
    have B6 := gr_below w w6
    go_wp2_with fail
    go_ret
    exact ⟨by rw [← HC0.out]; rfl, B6⟩
theorem divL_at (l t : List UInt8) : ∀ (Q : List Nat) (f j : Nat), j ≤ Q.length → (divL l t Q f).getD j [] = (l.take (Q[j]?.getD l.length)).drop (if j = 0 then f else (Q[j - 1]?.getD 0) + t.length)
 | [], f, j, h => by
   have : j = 0 := by simpa using h
   subst this
   simp [divL]
 | q :: Q, f, 0, h => by simp [divL]
 | q :: Q, f, j + 1, h => by
   have ih := divL_at l t Q (q + t.length) j (by simpa using h)
   rw [divL, List.getD_cons_succ, ih]
   cases j with
   | zero => simp
   | succ k => simp
theorem OkP.ord {n tl : Nat} : ∀ {Q : List Nat} {f : Nat} (j x : Nat), OkP n tl Q f → Q[j]? = some x → x + tl ≤ n ∧ ∀ y, Q[j + 1]? = some y → x + tl ≤ y
 | [], _, j, x, h, hj => by simp at hj
 | q :: r, f, 0, x, h, hj => by
   have : q = x := by simpa using hj
   subst this
   refine ⟨h.2.le, fun y hy => ?_⟩
   cases r with
   | nil => simp at hy
   | cons a r =>
     have : a = y := by simpa using hy
     subst this
     exact h.2.1
 | q :: r, f, j + 1, x, h, hj => by
   have := OkP.ord j x h.2 (by simpa using hj)
   exact ⟨this.1, fun y hy => this.2 y (by simpa using hy)⟩
theorem OkP.le_all {n tl : Nat} {Q : List Nat} {f : Nat} (h : OkP n tl Q f) {j x : Nat} (hj : Q[j]? = some x) : x ≤ n := by have := (h.ord j x hj).1; omega
theorem spart_any (s t : ByteArray) (i : Int) (w : World) (hs : s.size ≤ 1000000) (ht : t.size ≤ 1000000) (hi : -9223372036854775808 ≤ i ∧ i ≤ 9223372036854775807) (hm : MX w) :
  Calls Tryz.prog 85 #[.string s, .string t, .int .i64 i] w fun e w' => e = .returned (.string (prtS s t i)) ∧ Below w.heap.size w w' := by
 have hD := sall_any s t w (by omega) (by omega) hm
 have hol := occS_len s t
 have hok := occS_ok s t
 have hsl : s.data.toList.length = s.size := by simp
 have htl : t.data.toList.length = t.size := by simp
 have hxd := ext_data s
 have hat := divL_at s.data.toList t.data.toList (occS s t) 0
 have hV : prtS s t i = if 0 ≤ prtJ (occS s t).length i ∧ prtJ (occS s t).length i ≤ (occS s t).length then ⟨((divL s.data.toList t.data.toList (occS s t) 0).getD (prtJ (occS s t).length i).toNat []).toArray⟩ else ⟨#[]⟩ := rfl
 obtain ⟨V, hVV⟩ : ∃ V, V = prtS s t i := ⟨_, rfl⟩
 rw [← hVV] at hV ⊢
 obtain ⟨D, hDD⟩ : ∃ D, D = divL s.data.toList t.data.toList (occS s t) 0 := ⟨_, rfl⟩
 rw [← hDD] at hat hV
 obtain ⟨Q, hQ⟩ : ∃ Q, Q = occS s t := ⟨_, rfl⟩
 rw [← hQ] at hD hol hok hat hV
 obtain ⟨n, hn⟩ : ∃ n, n = Q.length := ⟨_, rfl⟩
 rw [← hn] at hD hol hat hV
 rw [hsl, htl] at hat
 obtain ⟨J, hJ⟩ : ∃ J, J = prtJ n i := ⟨_, rfl⟩
 rw [← hJ] at hV
 unfold prtJ at hJ
 have HV := Lib.hid hV
 have HAT := Lib.hid hat
 have HOK := Lib.hid hok
 have HXD := Lib.hid hxd
 have HN := Lib.hid hn
 have HJ := Lib.hid hJ
 clear hVV hDD hQ hn hV hat hok hxd hJ hsl htl
 go_enter Tryz.func85, Tryz.ntmps85
 go_wp2_with fail
 refine hD.mono ?_
 rintro e w1 ⟨p, c, rfl, hns, hb1⟩
 have hcap := hns.1
 rw [← HN.out] at hcap
 have hcap2 := hns.2.1
 have HNS := Lib.hid hns
 clear hD hns
 obtain ⟨bx, hbx⟩ : ∃ bx, decide (i < 0) = bx := ⟨_, rfl⟩
 go_upto_if 14 with fail
 go_cut [2] from 15 to 19 (fun s2 wc => s2 = .int .i64 J ∧ w1 = wc)
 case first =>
  cases bx with
  | true =>
    have h1 : i < 0 := of_decide_eq_true hbx
    have hj := HJ.out
    rw [if_pos h1] at hj
    go_wp2_with fail
    go_meet
    case rel => exact ⟨by congr 1; omega, rfl⟩
  | false =>
    have h1 : ¬ i < 0 := of_decide_eq_false hbx
    have hj := HJ.out
    rw [if_neg h1] at hj
    subst hj
    go_wp2_with fail
    go_meet
    case rel => exact ⟨rfl, rfl⟩
 case rest =>
  obtain ⟨rfl, rfl⟩ := hcut
  clear hbx HJ
  by_cases h0 : J < 0
  ·have g0 : decide (J < 0) = true := decide_eq_true h0
   have hr : V = ⟨#[]⟩ := by rw [HV.out, if_neg (by omega)]
   have HRR := Lib.hid hr
   clear hr
   go_wp2_with fail
   go_ret
   exact ⟨by rw [HRR.out]; rfl, hb1⟩
  ·have g0 : decide (J < 0) = false := decide_eq_false h0
   obtain ⟨j, rfl⟩ := Int.eq_ofNat_of_zero_le (show 0 ≤ J by omega)
   by_cases h1 : n < j
   ·have g1 : decide (n < j) = true := decide_eq_true h1
    have hr : V = ⟨#[]⟩ := by rw [HV.out, if_neg (by omega)]
    have HRR := Lib.hid hr
    clear hr
    go_wp2_with fail
    go_ret
    exact ⟨by rw [HRR.out]; rfl, hb1⟩
   ·have g1 : decide (n < j) = false := decide_eq_false h1
    obtain ⟨fr, hfr⟩ : ∃ fr, fr = (if j = 0 then 0 else (Q[j - 1]?.getD 0) + t.size) := ⟨_, rfl⟩
    obtain ⟨te, hte⟩ : ∃ te, te = Q[j]?.getD s.size := ⟨_, rfl⟩
    have hr : V = s.extract fr te := by
     rw [HV.out, if_pos ⟨by omega, by omega⟩, show ((j : Int)).toNat = j by omega, HAT.out j (by omega), ← hfr, ← hte]
     exact bytes_ext (by rw [HXD.out])
    have hft : fr ≤ te ∧ te ≤ s.size := by
     have hte2 : te ≤ s.size := by
      rw [hte]
      cases hq : Q[j]? with
      | none => exact Nat.le_refl _
      | some x => exact HOK.out.le_all hq
     refine ⟨?_, hte2⟩
     rw [hfr]
     split
     ·omega
     ·rename_i hj0
      obtain ⟨x, hx⟩ : ∃ x, Q[j - 1]? = some x := ⟨_, List.getElem?_eq_getElem (by rw [← HN.out]; omega)⟩
      have ho := HOK.out.ord (j - 1) x hx
      rw [hx, hte]
      show x + t.size ≤ _
      cases hq : Q[j]? with
      | none => exact ho.1
      | some y => exact ho.2 y (by rw [show j - 1 + 1 = j by omega]; exact hq)
    have HRR := Lib.hid hr
    have HFR := Lib.hid hfr
    have HTE := Lib.hid hte
    obtain ⟨hft1, hft2⟩ := hft
    clear hr hfr hte HAT HXD
    obtain ⟨b1, hb1x⟩ : ∃ b1, decide (0 < j) = b1 := ⟨_, rfl⟩
    have HB1X := Lib.hid hb1x
    go_upto_if 31 with fail
    go_cut [8] from 32 to 39 (fun s8 wc => s8 = .int .i64 fr ∧ w1 = wc)
    case first =>
     cases b1 with
     | true =>
       have h2 : 0 < j := of_decide_eq_true HB1X.out
       obtain ⟨x, hx⟩ : ∃ x, Q[j - 1]? = some x := ⟨_, List.getElem?_eq_getElem (by rw [← HN.out]; omega)⟩
       obtain ⟨b0, o, rfl, hbk, hcc⟩ := HNS.out.all (by rw [← HN.out]; omega)
       have d0 := hcc (j - 1) x hx
       have hf := HFR.out
       rw [if_neg (by omega), hx] at hf
       replace hf : fr = x + t.size := hf
       have ho := (HOK.out.ord (j - 1) x hx).1
       obtain ⟨k, rfl⟩ : ∃ k, j = k + 1 := ⟨j - 1, by omega⟩
       replace d0 : w1.cell? ⟨b0, o + k, none⟩ = some (.int .i64 (x : Int)) := d0
       have HF := Lib.hid hf
       have hkn : k < n := by omega
       clear hx hcc hf
       go_wp2_with fail
       go_meet
       case rel => exact ⟨by rw [HF.out]; go_num, rfl⟩
     | false =>
       have h2 : ¬ 0 < j := of_decide_eq_false HB1X.out
       have hj0 : j = 0 := by omega
       have hf := HFR.out
       rw [if_pos hj0] at hf
       subst hf
       clear hj0
       go_wp2_with fail
       go_meet
       case rel => exact ⟨rfl, rfl⟩
    case rest =>
     obtain ⟨rfl, rfl⟩ := hcut
     clear hb1x HB1X
     obtain ⟨b2, hb2x⟩ : ∃ b2, decide (j < n) = b2 := ⟨_, rfl⟩
     have HB2X := Lib.hid hb2x
     go_upto_if 43 with fail
     go_cut [9] from 44 to 47 (fun s9 wc => s9 = .int .i64 te ∧ w1 = wc)
     case first =>
      cases b2 with
      | true =>
        have h2 : j < n := of_decide_eq_true HB2X.out
        obtain ⟨x, hx⟩ : ∃ x, Q[j]? = some x := ⟨_, List.getElem?_eq_getElem (by rw [← HN.out]; omega)⟩
        obtain ⟨b0, o, rfl, hbk, hcc⟩ := HNS.out.all (by rw [← HN.out]; omega)
        have d0 := hcc j x hx
        have hf := HTE.out
        rw [hx] at hf
        replace hf : te = x := hf
        subst hf
        clear hx hcc
        go_wp2_with fail
        go_meet
        case rel => exact ⟨rfl, rfl⟩
      | false =>
        have h2 : ¬ j < n := of_decide_eq_false HB2X.out
        have hf := HTE.out
        rw [List.getElem?_eq_none (by rw [← HN.out]; omega)] at hf
        replace hf : te = s.size := hf
        subst hf
        go_wp2_with fail
        go_meet
        case rel => exact ⟨rfl, rfl⟩
     case rest =>
      obtain ⟨rfl, rfl⟩ := hcut
      go_wp2_with fail
      go_ret
      exact ⟨by rw [HRR.out]; rfl, hb1⟩
end Go.Proofs.YtcklofamaooegaaGreatDoor
namespace Go.Proofs.YtcklofamaooegaaGreatDoor
open Go.RowKit
def padP (f : ByteArray) (i : Nat) : List UInt8 := Lib.repeatL f.data.toList (i / nR f) ++ f.data.toList.take ((stL f).getD (i % nR f) 0)
theorem nR_pos {f : ByteArray} (h : 0 < f.size) : 1 ≤ nR f := by
 unfold nR
 obtain ⟨m, hm⟩ : ∃ m, f.size = m + 1 := ⟨f.size - 1, by omega⟩
 have := rst_step f m 0 (by omega)
 rw [hm, this, List.length_cons]; omega
theorem stL_zero (f : ByteArray) : (stL f).getD 0 0 = 0 := by
 by_cases h : f.size = 0
 ·unfold stL; rw [h]; rfl
 ·unfold stL
  obtain ⟨m, hm⟩ : ∃ m, f.size = m + 1 := ⟨f.size - 1, by omega⟩
  have := rst_step f m 0 (by omega)
  rw [hm, this]; rfl
theorem stL_end (f : ByteArray) : (stL f).getD (nR f) 0 = f.size := by
 rw [List.getD_eq_getElem?_getD, stL_last]; rfl
theorem repeatL_len (l : List UInt8) (n : Nat) : (Lib.repeatL l n).length = n * l.length := Lib.repeatL_length l n
theorem repeatL_succ (l : List UInt8) (n : Nat) : Lib.repeatL l (n + 1) = Lib.repeatL l n ++ l := by rw [Lib.repeatL_add, Lib.repeatL_one]
theorem take_more (l : List UInt8) {a b : Nat} (h : a ≤ b) : l.take b = l.take a ++ (l.take b).drop a := by
 have := List.take_append_drop a (l.take b)
 rw [List.take_take, Nat.min_eq_left h] at this
 exact this.symm
theorem padP_step (f : ByteArray) (hf : 0 < f.size) (i : Nat) : padP f (i + 1) = padP f i ++ (f.data.toList.take ((stL f).getD (i % nR f + 1) 0)).drop ((stL f).getD (i % nR f) 0) := by
 have hk := nR_pos hf
 have hz : f.data.toList.length = f.size := by simp
 have hlt := Nat.mod_lt i (show nR f > 0 by omega)
 have hle := stL_mono f (i := i % nR f) (j := i % nR f + 1) (by omega) (by omega)
 unfold padP
 by_cases h : i % nR f + 1 = nR f
 ·have e1 : (i + 1) / nR f = i / nR f + 1 := by
   have := Nat.div_add_mod i (nR f)
   rw [show i + 1 = nR f * (i / nR f + 1) by rw [Nat.mul_add]; omega]
   exact Nat.mul_div_cancel_left _ (by omega)
  have e2 : (i + 1) % nR f = 0 := by
   have := Nat.div_add_mod i (nR f)
   rw [show i + 1 = nR f * (i / nR f + 1) by rw [Nat.mul_add]; omega]
   exact Nat.mul_mod_right _ _
  have e3 := take_more f.data.toList hle
  rw [e1, e2, stL_zero, repeatL_succ, List.take_zero, List.append_nil, List.append_assoc, ← e3, h, stL_end, List.take_of_length_le (by omega)]
 ·have hr1 : i % nR f + 1 < nR f := by omega
  have e1 : (i + 1) / nR f = i / nR f := by
   have h1 := Nat.div_add_mod i (nR f)
   rw [show i + 1 = nR f * (i / nR f) + (i % nR f + 1) by omega, Nat.mul_add_div (show nR f > 0 from hk), Nat.div_eq_of_lt hr1, Nat.add_zero]
  have e2 : (i + 1) % nR f = i % nR f + 1 := by
   have h1 := Nat.div_add_mod i (nR f)
   rw [show i + 1 = nR f * (i / nR f) + (i % nR f + 1) by omega, Nat.mul_add_mod, Nat.mod_eq_of_lt hr1]
  rw [e1, e2, List.append_assoc, ← take_more f.data.toList hle]
theorem padP_grow (f : ByteArray) (hf : 0 < f.size) (i : Nat) : (padP f i).length + 1 ≤ (padP f (i + 1)).length := by
 have hk := nR_pos hf
 have hlt := Nat.mod_lt i (show nR f > 0 by omega)
 have h1 := stL_lt (s := f) (i := i % nR f) (j := i % nR f + 1) (by omega) (stL_at f _ (by omega)) (stL_at f _ (by omega))
 have h2 := stL_size f (i := i % nR f + 1) (by omega)
 have hz : f.data.toList.length = f.size := by simp
 rw [padP_step f hf, List.length_append, List.length_drop, List.length_take, hz]
 omega
theorem padP_mono (f : ByteArray) (hf : 0 < f.size) (i : Nat) : ∀ d, (padP f i).length + d ≤ (padP f (i + d)).length
 | 0 => Nat.le_refl _
 | d + 1 => by have := padP_mono f hf i d; have := padP_grow f hf (i + d); rw [← Nat.add_assoc i d 1]; omega
theorem padP_ge (f : ByteArray) (hf : 0 < f.size) (i : Nat) : i ≤ (padP f i).length := by
 have := padP_mono f hf 0 i
 rw [Nat.zero_add] at this; omega
theorem padP_rep (f : ByteArray) (i : Nat) : (Lib.repeatL f.data.toList (i / nR f)).length ≤ (padP f i).length := by unfold padP; rw [List.length_append]; omega
def padQ (s : ByteArray) (n : Int) (f : ByteArray) : List UInt8 := if f.size = 0 ∨ n ≤ nR s then [] else padP f (n - nR s).toNat
def padV (left : Bool) (s : ByteArray) (n : Int) (f : ByteArray) : ByteArray × Int := if (padQ s n f).length + s.size ≤ 32768 then (if left = true then ⟨(padQ s n f).toArray⟩ ++ s else s ++ ⟨(padQ s n f).toArray⟩, 0) else (⟨#[]⟩, 3)
end Go.Proofs.YtcklofamaooegaaGreatDoor
namespace Go.Proofs.YtcklofamaooegaaGreatDoor
open Go.RowKit
attribute [local go_sem ↓] Go.wp_at_zero Go.wp_at_succ
def PadS (Q : List UInt8) (v z : Value) : Prop := ∃ (P : ByteArray) (ok : Bool), v = .string P ∧ z = .bool ok ∧ (ok = true → P.data.toList = Q) ∧ (ok = false → 32768 < Q.length) ∧ P.size ≤ 100000000000
theorem PadS.none : PadS [] (.string ⟨#[]⟩) (.bool true) := ⟨⟨#[]⟩, true, rfl, rfl, fun _ => rfl, fun h => (by cases h), by decide⟩
theorem spadding_any (s f : ByteArray) (n : Int) (w : World) (hs : s.size ≤ 1000000) (hf : f.size ≤ 1000000) (hn : -9223372036854775808 ≤ n ∧ n ≤ 9223372036854775807) :
  Calls Tryz.prog 137 #[.string s, .int .i64 n, .string f] w fun e w' => ∃ v z, e = .returned (.tuple #[v, z]) ∧ PadS (padQ s n f) v z ∧ Below w.heap.size w w' := by
 have hL := fun W => slength_any s W (by omega)
 have hle := nR_le s
 have hQ : padQ s n f = if f.size = 0 ∨ n ≤ nR s then [] else padP f (n - nR s).toNat := rfl
 obtain ⟨Q, hQQ⟩ : ∃ Q, Q = padQ s n f := ⟨_, rfl⟩
 rw [← hQQ] at hQ ⊢
 obtain ⟨k, hk⟩ : ∃ k, k = nR s := ⟨_, rfl⟩
 rw [← hk] at hL hle hQ
 have HL := Lib.hid hL
 have HQ := Lib.hid hQ
 clear hL hQ hQQ hk
 by_cases h0 : f.size = 0
 ·have hf1 : f = ⟨#[]⟩ := bytes_ext (List.length_eq_zero_iff.1 (by have : f.data.toList.length = f.size := (by simp); omega))
  have hq : Q = [] := by rw [HQ.out, if_pos (.inl h0)]
  have HQE := Lib.hid hq
  subst hf1
  clear h0 hq
  go_enter Tryz.func137, Tryz.ntmps137
  go_wp2_with fail
  go_ret2
  exact ⟨_, _, rfl, by rw [HQE.out]; exact PadS.none, Below.refl _ _⟩
 ·have hfp : 0 < f.size := by omega
  have hfe : f.toList.isEmpty = false := isEmpty_cons (first_cons f hfp)
  by_cases h1 : n ≤ k
  ·have hq : Q = [] := by rw [HQ.out, if_pos (.inr h1)]
   have HQE := Lib.hid hq
   have g1 : decide (n ≤ (k : Int)) = true := decide_eq_true h1
   clear h0 hq
   go_enter Tryz.func137, Tryz.ntmps137
   go_wp2_with fail
   refine (HL.out _).mono ?_
   rintro e w1 ⟨rfl, hb1⟩
   go_wp2_with fail
   go_ret2
   exact ⟨_, _, rfl, by rw [HQE.out]; exact PadS.none, hb1⟩
  ·have g1 : decide (n ≤ (k : Int)) = false := decide_eq_false h1
   obtain ⟨d, hd⟩ : ∃ d : Nat, n - (k : Int) = (d : Int) := ⟨(n - (k : Int)).toNat, by omega⟩
   have hq : Q = padP f d := by rw [HQ.out, if_neg (by omega), hd]; rfl
   have hd1 : 0 ≤ n - (k : Int) := by omega
   have hd2 : n - (k : Int) ≤ 9223372036854775807 := by omega
   have HQE := Lib.hid hq
   by_cases h2 : 32768 < d
   ·have g2 : decide ((32768 : Int) < n - (k : Int)) = true := decide_eq_true (by omega)
    have hbig : 32768 < Q.length := by have := padP_ge f hfp d; rw [hq]; omega
    have HBIG := Lib.hid hbig
    clear h0 hq hbig hd
    go_enter Tryz.func137, Tryz.ntmps137
    go_wp2_with fail
    refine (HL.out _).mono ?_
    rintro e w1 ⟨rfl, hb1⟩
    go_wp2_with fail
    refine (HL.out _).mono ?_
    rintro e w2 ⟨rfl, hb2⟩
    go_wp2_with fail
    go_ret2
    exact ⟨_, _, rfl, ⟨⟨#[]⟩, false, rfl, rfl, fun h => (by cases h), fun _ => HBIG.out, by decide⟩, below_then hb1 hb2⟩
   ·have g2 : decide ((32768 : Int) < n - (k : Int)) = false := decide_eq_false (by omega)
    have hO := fun W => soffsets_any f W (by omega)
    have hN := stL_nR f
    rw [hN] at hO
    have hpd : padP f d = Lib.repeatL f.data.toList (d / nR f) ++ f.data.toList.take ((stL f).getD (d % nR f) 0) := rfl
    have hrp := padP_rep f d
    have hnp := nR_pos hfp
    have hnl := nR_le f
    obtain ⟨m, hm⟩ : ∃ m, m = nR f := ⟨_, rfl⟩
    rw [← hm] at hO hN hpd hrp hnp hnl
    have hlt := Nat.mod_lt d (show m > 0 by omega)
    have hax := stL_at f (d % m) (by rw [← hm]; omega)
    have hxz := stL_size f (i := d % m) (by rw [← hm]; omega)
    have hqd : d / m ≤ 32768 := Nat.le_trans (Nat.div_le_self _ _) (by omega)
    have hR := fun W => Tryz.strings_Repeat f (d / m) W (by omega) (Nat.le_trans (Nat.mul_le_mul hf hqd) (by decide))
    have hrl : (Lib.repeatL f.data.toList (d / m)).length ≤ d / m * f.size := by rw [repeatL_len]; simp
    have hrl2 : (Lib.repeatL f.data.toList (d / m)).length = d / m * f.size := by rw [repeatL_len]; simp
    have hquo : (n - (k : Int)) / (m : Int) = ((d / m : Nat) : Int) := by rw [hd]; simp
    have hquo2 : Int.tdiv (n - (k : Int)) (m : Int) = ((d / m : Nat) : Int) := by rw [Int.tdiv_eq_ediv_of_nonneg (by omega)]; exact hquo
    have hrem : (n - (k : Int)) % (m : Int) = ((d % m : Nat) : Int) := by rw [hd]; simp
    have hrem2 : Int.tmod (n - (k : Int)) (m : Int) = ((d % m : Nat) : Int) := by rw [Int.tmod_eq_emod_of_nonneg (by omega)]; exact hrem
    obtain ⟨q, hq2⟩ : ∃ q, q = d / m := ⟨_, rfl⟩
    obtain ⟨r, hr2⟩ : ∃ r, r = d % m := ⟨_, rfl⟩
    rw [← hq2] at hpd hrp hqd hR hrl hrl2 hquo hquo2
    rw [← hr2] at hpd hlt hax hxz hrem hrem2
    obtain ⟨x, hx⟩ : ∃ x, x = (stL f).getD r 0 := ⟨_, rfl⟩
    rw [← hx] at hpd hax hxz
    obtain ⟨R, hRR⟩ : ∃ R : ByteArray, R = ⟨(Lib.repeatL f.data.toList q).toArray⟩ := ⟨_, rfl⟩
    rw [← hRR] at hR
    have hRd : R.data.toList = Lib.repeatL f.data.toList q := by rw [hRR]
    have hRs : R.size = (Lib.repeatL f.data.toList q).length := sz_of hRd
    have hfin : (R ++ f.extract 0 x).data.toList = Q := by rw [app_data, hRd, ext_data, hq, hpd, List.drop_zero]
    have hRbig : ¬ R.size ≤ 32768 → 32768 < Q.length := by rw [hq]; omega
    have hRS : R.size ≤ 32768 * 1000000 := by rw [hRs, hrl2]; exact Nat.mul_le_mul hqd hf
    have hXs : (f.extract 0 x).size = x := by rw [ByteArray.size_extract]; omega
    have HFIN := Lib.hid hfin
    have HBIG := Lib.hid hRbig
    have HAX := Lib.hid hax
    have HN := Lib.hid hN
    have HR := Lib.hid hR
    clear h0 hq hpd hrp hrl hrl2 hd hq2 hr2 hx hRR hRd hRs hfin hRbig hax hN hR hm
    go_enter Tryz.func137, Tryz.ntmps137
    go_wp2_with fail
    refine (HL.out _).mono ?_
    rintro e w1 ⟨rfl, hb1⟩
    go_wp2_with fail
    refine (HL.out _).mono ?_
    rintro e w2 ⟨rfl, hb2⟩
    have hb := below_then hb1 hb2
    go_wp2_with fail
    refine (hO _).mono ?_
    rintro e w3 ⟨p, c, rfl, hns, hb3⟩
    replace hb := below_then hb hb3
    have hcap := hns.1
    rw [HN.out] at hcap
    have hcap2 := hns.2.1
    obtain ⟨b0, o, rfl, hbk, hcc⟩ := hns.all (by rw [HN.out]; omega)
    have d0 := hcc r x HAX.out
    clear hns hcc hb1 hb2 hb3
    go_wp2_with fail
    refine (HR.out _).mono ?_
    rintro e w4 ⟨rfl, hb4⟩
    have d1 := (hb4.cell (p := ⟨b0, o + r, none⟩) hbk).trans d0
    have hbk2 : b0 < w4.heap.size := Nat.lt_of_lt_of_le hbk hb4.size
    replace hb := below_then hb hb4
    clear hb4 d0
    go_wp2_with fail
    go_ret2
    refine ⟨_, _, rfl, ⟨R ++ f.extract 0 x, decide ((R.size : Int) ≤ 32768), rfl, rfl, fun _ => HFIN.out, fun h => HBIG.out (by have := of_decide_eq_false h; omega), ?_⟩, hb⟩
    rw [ByteArray.size_append, hXs]; omega
theorem checked_any (s : ByteArray) (w : World) (hs : s.size ≤ 1000000000000) :
  Calls Tryz.prog 138 #[.string s] w fun e w' => e = .returned (.tuple #[.string (if s.size ≤ 32768 then s else ⟨#[]⟩), .int .i64 (if s.size ≤ 32768 then 0 else 3)]) ∧ Below w.heap.size w w' := by
 by_cases h : s.size ≤ 32768
 ·rw [if_pos h, if_pos h]
  go_enter Tryz.func138, Tryz.ntmps138
  go_wp2_with fail
  go_ret2
  exact ⟨rfl, Below.refl _ _⟩
 ·rw [if_neg h, if_neg h]
  have h1 : 32768 < s.size := by omega
  go_enter Tryz.func138, Tryz.ntmps138
  go_wp2_with fail
  go_ret2
  exact ⟨rfl, Below.refl _ _⟩
theorem spadleft_any (s f : ByteArray) (n : Int) (w : World) (hs : s.size ≤ 1000000) (hf : f.size ≤ 1000000) (hn : -9223372036854775808 ≤ n ∧ n ≤ 9223372036854775807) :
  Calls Tryz.prog 80 #[.string s, .int .i64 n, .string f] w fun e w' => e = .returned (.tuple #[.string (padV true s n f).1, .int .i64 (padV true s n f).2]) ∧ Below w.heap.size w w' := by
 have hC := spadding_any s f n w hs hf hn
 have hV : padV true s n f = if (padQ s n f).length + s.size ≤ 32768 then (⟨(padQ s n f).toArray⟩ ++ s, 0) else (⟨#[]⟩, 3) := by unfold padV; rfl
 generalize padV true s n f = V at *
 generalize padQ s n f = Q at *
 have HV := Lib.hid hV
 clear hV
 go_enter Tryz.func80, Tryz.ntmps80
 go_wp2_with fail
 refine hC.mono ?_
 rintro e w1 ⟨v, z, rfl, ⟨P, ok, rfl, rfl, h1, h2, h3⟩, hb1⟩
 have H1 := Lib.hid h1
 have H2 := Lib.hid h2
 clear h1 h2 hC
 cases ok with
 | false =>
   have hv : V = (⟨#[]⟩, 3) := by rw [HV.out, if_neg (by have := H2.out rfl; omega)]
   have HV2 := Lib.hid hv
   clear hv
   go_wp2_with fail
   go_ret2
   exact ⟨by rw [HV2.out]; rfl, hb1⟩
 | true =>
   have hPQ := H1.out rfl
   have hPs : P.size = Q.length := sz_of hPQ
   have hPe : (⟨Q.toArray⟩ : ByteArray) = P := bytes_ext (by rw [hPQ])
   have hsz : (P ++ s).size = Q.length + s.size := by rw [ByteArray.size_append, hPs]
   have hK := fun W => checked_any (P ++ s) W (by rw [ByteArray.size_append]; omega)
   have hv : V = (if (P ++ s).size ≤ 32768 then P ++ s else ⟨#[]⟩, if (P ++ s).size ≤ 32768 then 0 else 3) := by
    rw [HV.out, hPe, hsz]
    split <;> rfl
   have HV2 := Lib.hid hv
   have HK := Lib.hid hK
   clear hv hK hPQ hPs hPe hsz
   go_wp2_with fail
   refine (HK.out _).mono ?_
   rintro e w2 ⟨rfl, hb2⟩
   generalize (if (P ++ s).size ≤ 32768 then P ++ s else ⟨#[]⟩) = A at *
   generalize (if (P ++ s).size ≤ 32768 then (0 : Int) else 3) = E at *
   go_wp2_with fail
   go_ret2
   exact ⟨by rw [HV2.out]; rfl, below_then hb1 hb2⟩
theorem spadright_any (s f : ByteArray) (n : Int) (w : World) (hs : s.size ≤ 1000000) (hf : f.size ≤ 1000000) (hn : -9223372036854775808 ≤ n ∧ n ≤ 9223372036854775807) :
  Calls Tryz.prog 81 #[.string s, .int .i64 n, .string f] w fun e w' => e = .returned (.tuple #[.string (padV false s n f).1, .int .i64 (padV false s n f).2]) ∧ Below w.heap.size w w' := by
 have hC := spadding_any s f n w hs hf hn
 have hV : padV false s n f = if (padQ s n f).length + s.size ≤ 32768 then (s ++ ⟨(padQ s n f).toArray⟩, 0) else (⟨#[]⟩, 3) := by unfold padV; rfl
 generalize padV false s n f = V at *
 generalize padQ s n f = Q at *
 have HV := Lib.hid hV
 clear hV
 go_enter Tryz.func81, Tryz.ntmps81
 go_wp2_with fail
 refine hC.mono ?_
 rintro e w1 ⟨v, z, rfl, ⟨P, ok, rfl, rfl, h1, h2, h3⟩, hb1⟩
 have H1 := Lib.hid h1
 have H2 := Lib.hid h2
 clear h1 h2 hC
 cases ok with
 | false =>
   have hv : V = (⟨#[]⟩, 3) := by rw [HV.out, if_neg (by have := H2.out rfl; omega)]
   have HV2 := Lib.hid hv
   clear hv
   go_wp2_with fail
   go_ret2
   exact ⟨by rw [HV2.out]; rfl, hb1⟩
 | true =>
   have hPQ := H1.out rfl
   have hPs : P.size = Q.length := sz_of hPQ
   have hPe : (⟨Q.toArray⟩ : ByteArray) = P := bytes_ext (by rw [hPQ])
   have hsz : (s ++ P).size = Q.length + s.size := by rw [ByteArray.size_append, hPs]; omega
   have hK := fun W => checked_any (s ++ P) W (by rw [ByteArray.size_append]; omega)
   have hv : V = (if (s ++ P).size ≤ 32768 then s ++ P else ⟨#[]⟩, if (s ++ P).size ≤ 32768 then 0 else 3) := by
    rw [HV.out, hPe, hsz]
    split <;> rfl
   have HV2 := Lib.hid hv
   have HK := Lib.hid hK
   clear hv hK hPQ hPs hPe hsz
   go_wp2_with fail
   refine (HK.out _).mono ?_
   rintro e w2 ⟨rfl, hb2⟩
   generalize (if (s ++ P).size ≤ 32768 then s ++ P else ⟨#[]⟩) = A at *
   generalize (if (s ++ P).size ≤ 32768 then (0 : Int) else 3) = E at *
   go_wp2_with fail
   go_ret2
   exact ⟨by rw [HV2.out]; rfl, below_then hb1 hb2⟩
end Go.Proofs.YtcklofamaooegaaGreatDoor
