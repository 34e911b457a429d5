/-
  The claim's own texts, packed. Conditions: those typed in each theorem.
-/
import Derived.Test.YtcklofamaooegaaGreatDoorZKaan
import Derived.Maps.AppendAt
import Derived.OwnWalk
import Derived.Lib.AtoiAll
set_option maxHeartbeats 4000000
set_option maxRecDepth 10000
set_option linter.unusedVariables false
namespace Go.Proofs.YtcklofamaooegaaGreatDoor
open Go.RowKit Go.Maps
theorem infoS : (Tryz.prog.info? 9).map (fun i => (i.zero, i.size, i.bytes)) = some (some (.string ByteArray.empty), 1, 16) := by kernel_rfl
def ScanPost (w : World) (o : Option (List ByteArray)) (e : Ending) (w' : World) : Prop :=
 Below w.heap.size w w' ∧ match o with
 | none => e = .returned (.tuple #[.slice none 0 0, .bool false])
 | some ts => ∃ v, e = .returned (.tuple #[v, .bool true]) ∧ w'.ownsRow w.heap.size 9 1 v ts.length (ts.map Value.string)
theorem emp_of_size {s : ByteArray} (h : s.size = 0) : s.data.toList = [] := List.eq_nil_of_length_eq_zero (by simpa using h)
theorem blank_iff (c : UInt8) : Form.blank c = true ↔ (c.toNat = 32 ∨ c.toNat = 9 ∨ c.toNat = 10) := by
 unfold Form.blank
 simp only [Bool.or_eq_true, beq_iff_eq, ← UInt8.toNat_inj]
 have e1 : (32 : UInt8).toNat = 32 := rfl
 have e2 : (9 : UInt8).toNat = 9 := rfl
 have e3 : (10 : UInt8).toNat = 10 := rfl
 omega
theorem list_cons {s : ByteArray} (h : 0 < s.size) : s.data.toList = s[0] :: s.data.toList.drop 1 := by
 have h1 : 0 < s.data.toList.length := by simpa using h
 rw [Num.at_list s 0 h]
 exact (List.getElem_cons_drop h1).symm
theorem map_app (o : Option (List ByteArray)) (acc : List ByteArray) (t : ByteArray) : (o.map (t :: ·)).map (acc ++ ·) = o.map ((acc ++ [t]) ++ ·) := by
 cases o <;> simp
theorem scan_any (s : ByteArray) (w : World) (hs : s.size ≤ 1000) :
  Calls Tryz.prog 52 #[.string s] w (ScanPost w (Form.tokens s.data.toList)) := by
 obtain ⟨i0, hi, hz0, hz1, hz2⟩ := info_parts infoS
 generalize hO : Form.tokens s.data.toList = O
 go_enter Tryz.func52, Tryz.ntmps52
 go_wp2_with fail
 go_loopg [0, 4, 5] (s.size + 1) (fun q s0 s4 s5 wr => ∃ (rest : ByteArray) (acc : List ByteArray), rest.size < q ∧ acc.length + rest.size ≤ 1000 ∧ s0 = .string rest ∧ wr.ownsRow w.heap.size 9 1 s4 acc.length (acc.map Value.string)
  ∧ Below w.heap.size w wr ∧ O = (Form.tokens rest.data.toList).map (acc ++ ·))
 case atStart => exact ⟨s, [], by omega, by simpa using hs, rfl, World.ownsRow_nil _ _ _ _, Below.refl _ _, by rw [← hO]; cases Form.tokens s.data.toList <;> simp⟩
 case round =>
  obtain ⟨rest, acc, hq, hlen, rfl, hown, hb, hev⟩ := hrel
  have HE := Lib.hid hev
  clear hev hO hs
  by_cases h0 : rest.size = 0
  ·have n1 : rest.toList.isEmpty = true := by rw [ByteArray.toList_eq, emp_of_size h0]; rfl
   have HO := Lib.hid hown
   clear hown
   go_wp2_with fail
   go_ret2
   refine ⟨hb, ?_⟩
   rw [HE.out, emp_of_size h0, Form.tokens_nil]
   simp only [Option.map_some, List.append_nil]
   exact ⟨_, rfl, HO.out⟩
  ·have n1 : rest.toList.isEmpty = false := str_emp (fun e => h0 (by rw [e]; rfl))
   have h0' : 0 < rest.size := by omega
   have hc := list_cons h0'
   by_cases hbl : Form.blank rest[0] = true
   ·have e1 : (rest.extract 1 rest.size).data.toList = rest.data.toList.drop 1 := by simp [List.take_of_length_le]
    have e2 : (rest.extract 1 rest.size).size = rest.size - 1 := by rw [ByteArray.size_extract]; omega
    have HE2 : Hid (O = (Form.tokens (rest.extract 1 rest.size).data.toList).map (acc ++ ·)) := Lib.hid (by rw [HE.out, e1]; conv => lhs; rw [hc, Form.tokens_blank hbl])
    have HO := Lib.hid hown
    clear hown hc e1 HE
    rcases (blank_iff _).1 hbl with h | h | h
    ·have b1 : ((rest[0].toNat : Int) == 32) = true := by simp; omega
     clear h hbl
     go_wp2_with fail
     go_roundg (rest.size - 1 + 1)
     case measure => omega
     case rel => exact ⟨_, acc, by rw [e2]; omega, by rw [e2]; omega, rfl, HO.out, hb, HE2.out⟩
    ·have b1 : ((rest[0].toNat : Int) == 32) = false := by simp; omega
     have b2 : ((rest[0].toNat : Int) == 9) = true := by simp; omega
     clear h hbl
     go_wp2_with fail
     go_roundg (rest.size - 1 + 1)
     case measure => omega
     case rel => exact ⟨_, acc, by rw [e2]; omega, by rw [e2]; omega, rfl, HO.out, hb, HE2.out⟩
    ·have b1 : ((rest[0].toNat : Int) == 32) = false := by simp; omega
     have b2 : ((rest[0].toNat : Int) == 9) = false := by simp; omega
     have b3 : ((rest[0].toNat : Int) == 10) = true := by simp; omega
     clear h hbl
     go_wp2_with fail
     go_roundg (rest.size - 1 + 1)
     case measure => omega
     case rel => exact ⟨_, acc, by rw [e2]; omega, by rw [e2]; omega, rfl, HO.out, hb, HE2.out⟩
   ·have hnb := mt (blank_iff _).2 hbl
    have hbl' : Form.blank rest[0] = false := by simpa using hbl
    have b1 : ((rest[0].toNat : Int) == 32) = false := by simp; omega
    have b2 : ((rest[0].toNat : Int) == 9) = false := by simp; omega
    have b3 : ((rest[0].toNat : Int) == 10) = false := by simp; omega
    have hN := fun w => next_any rest w (by omega) h0'
    have hle := Form.next_le rest.data.toList
    have hle' : Form.next rest.data.toList ≤ rest.size := by simpa using hle
    unfold NextR at hN
    by_cases hn : Form.next rest.data.toList = 0
    ·rw [hn] at hN
     have HE2 : Hid (O = none) := Lib.hid (by rw [HE.out, hc, Form.tokens_none hbl' (by rw [← hc]; exact hn)]; rfl)
     clear hown HE hc hbl hbl' hnb hle hle' hn
     go_wp2_with fail
     refine (hN _).mono ?_
     rintro e w1 ⟨rfl, rfl⟩
     go_wp2_with fail
     go_ret2
     refine ⟨hb, ?_⟩
     rw [HE2.out]
     exact rfl
    ·obtain ⟨n, hne⟩ : ∃ n, Form.next rest.data.toList = n := ⟨_, rfl⟩
     rw [hne] at hN hle' hn
     obtain ⟨tok, htok⟩ : ∃ tok, rest.extract 0 n = tok := ⟨_, rfl⟩
     obtain ⟨tl, htl⟩ : ∃ tl, rest.extract n rest.size = tl := ⟨_, rfl⟩
     have e1 : tl.data.toList = rest.data.toList.drop n := by rw [← htl]; simp [List.take_of_length_le]
     have e2 : tl.size = rest.size - n := by rw [← htl, ByteArray.size_extract]; omega
     have e3 : (⟨(rest.data.toList.take n).toArray⟩ : ByteArray) = tok := by rw [← htok]; apply ByteArray.ext; apply Array.toList_inj.1; simp
     have HE2 : Hid (O = (Form.tokens tl.data.toList).map ((acc ++ [tok]) ++ ·)) := Lib.hid (by
      rw [HE.out, ← map_app, e1, ← e3, ← hne]
      congr 1
      conv => lhs; rw [hc, Form.tokens_some hbl' (by rw [← hc, hne]; exact hn)]
      rw [← hc])
     have HT := Lib.hid htok
     have HL := Lib.hid htl
     clear HE hc hbl hbl' hnb hle e1 e3 hne
     have hsz := hb.size
     go_wp2_with fail
     refine (hN _).mono ?_
     rintro e w1 ⟨rfl, rfl⟩
     go_wp2_with (at_builtin; refine wpList_append_own _ rfl _ _ 22 rfl w.heap.size 9 i0 (.string ByteArray.empty) 1 16 Tryz.underlying22 hi hz0 hz1 hz2 rfl (by decide) _ _ _ rfl (hown.alloc _) ⟨wr.heap.size, 0, none⟩ 1 1 [.string tok] rfl rfl (cell_one_new _ _ _) (fun x hx => by simp at hx; subst hx; rfl) (by unfold maxLen; omega) (by omega) (by simp; omega) ?_; intro v' w3 hown' hgrow3 hnil3)
     go_roundg (tl.size + 1)
     case measure => omega
     case rel => exact ⟨tl, acc ++ [tok], by omega, by simp; omega, rfl, by simpa using hown', (hb.alloc hsz _).grown hgrow3 (by simp; omega) (fun q hq => (hown.lt q hq).1), HE2.out⟩
theorem drop_at {s : ByteArray} {i k : Nat} (h : i + k < s.size) : ∃ h' : k < (s.data.toList.drop i).length, (s.data.toList.drop i)[k] = s[i + k] := by
 refine ⟨by simp; omega, ?_⟩
 rw [List.getElem_drop, Num.at_list s (i + k) h]
theorem leadD (s : ByteArray) (lo hi : UInt8) (i : Nat) (h : i ≤ s.size) : i + Form.leadR lo hi (s.data.toList.drop i) ≤ s.size := by
 have := Form.leadR_le lo hi (s.data.toList.drop i)
 simp at this
 omega
theorem runRef_any (s : ByteArray) (i : Nat) (lo hi : UInt8) (w : World) (hs : s.size ≤ 1000) (hi0 : i ≤ s.size) :
  Calls Tryz.prog 234 #[.string s, .int .i64 i, .int .u8 lo.toNat, .int .u8 hi.toNat] w fun e w' => e = .returned (.int .i64 ((i + Form.leadR lo hi (s.data.toList.drop i) : Nat) : Int)) ∧ w = w' := by
 have hle := leadD s lo hi i hi0
 have hin : ∀ k, i ≤ k → k < i + Form.leadR lo hi (s.data.toList.drop i) → ∃ h : k < s.size, lo.toNat ≤ s[k].toNat ∧ s[k].toNat ≤ hi.toNat := by
  intro k hk0 hk
  obtain ⟨q, rfl⟩ : ∃ q, k = i + q := ⟨k - i, by omega⟩
  obtain ⟨h1, h2, h3⟩ := Form.leadR_in lo hi _ q (by omega : q < Form.leadR lo hi (s.data.toList.drop i))
  have h4 : i + q < s.size := by omega
  obtain ⟨h5, h6⟩ := drop_at h4
  rw [h6] at h2 h3
  exact ⟨h4, UInt8.le_iff_toNat_le.1 h2, UInt8.le_iff_toNat_le.1 h3⟩
 have hend : ∀ h : i + Form.leadR lo hi (s.data.toList.drop i) < s.size, s[i + Form.leadR lo hi (s.data.toList.drop i)].toNat < lo.toNat ∨ lo.toNat ≤ s[i + Form.leadR lo hi (s.data.toList.drop i)].toNat ∧ hi.toNat < s[i + Form.leadR lo hi (s.data.toList.drop i)].toNat := by
  intro h
  obtain ⟨h5, h6⟩ := drop_at h
  have h1 := Form.leadR_end lo hi (s.data.toList.drop i) h5
  rw [h6] at h1
  simp only [UInt8.le_iff_toNat_le] at h1
  omega
 have hlo := lo.toNat_lt
 have hhi := hi.toNat_lt
 have hil : i ≤ i + Form.leadR lo hi (s.data.toList.drop i) := by omega
 generalize i + Form.leadR lo hi (s.data.toList.drop i) = L at *
 generalize lo.toNat = a at *
 generalize hi.toNat = c at *
 go_enter Tryz.func234, Tryz.ntmps234
 go_wp2_with fail
 go_loopg [1] (L - i + 1) (fun g s1 wr => ∃ k : Nat, i ≤ k ∧ k ≤ L ∧ L - k < g ∧ s1 = .int .i64 k ∧ w = wr)
 case atStart => exact ⟨i, by omega, by omega, by omega, rfl, rfl⟩
 case round =>
  obtain ⟨k, hk0, hk, hg, rfl, rfl⟩ := hrel
  by_cases h : k < L
  ·obtain ⟨h1, h2, h3⟩ := hin k hk0 h
   clear hin hend
   have g2 : decide (a ≤ s[k].toNat) = true := by simpa using h2
   have g3 : decide (s[k].toNat ≤ c) = true := by simpa using h3
   go_wp2_with fail
   go_roundg (L - (k + 1) + 1)
   case measure => omega
   case rel => exact ⟨k + 1, by omega, by omega, by omega, rfl, rfl⟩
  ·obtain rfl : k = L := by omega
   clear hin
   by_cases h1 : k < s.size
   ·rcases hend h1 with h2 | ⟨h2, h3⟩
    ·clear hend
     have g2 : decide (a ≤ s[k].toNat) = false := by simp; omega
     go_wp2_with fail
     go_ret
     exact ⟨rfl, rfl⟩
    ·clear hend
     have g2 : decide (a ≤ s[k].toNat) = true := by simpa using h2
     have g3 : decide (s[k].toNat ≤ c) = false := by simp; omega
     go_wp2_with fail
     go_ret
     exact ⟨rfl, rfl⟩
   ·clear hend
    go_wp2_with fail
    go_ret
    exact ⟨rfl, rfl⟩
theorem mem_at {S : ByteArray} {l : List ByteArray} {i : Nat} (h : i < l.length) (e : l[i] = S) : Form.mem S l = true := Form.mem_iff.2 (e ▸ List.getElem_mem h)
theorem mem_none {S : ByteArray} {l : List ByteArray} (h : ∀ q (hq : q < l.length), ¬ l[q] = S) : Form.mem S l = false := by
 cases hm : Form.mem S l with
 | false => rfl
 | true =>
   obtain ⟨q, hq, e⟩ := List.mem_iff_getElem.1 (Form.mem_iff.1 hm)
   exact absurd e (h q hq)
theorem has_any (x : Nat) (l : List ByteArray) (S : ByteArray) (w : World) (hl : l.length ≤ 10) (hL : Strs w x l) :
  Calls Tryz.prog 235 #[.slice (some ⟨x, 0, none⟩) l.length l.length, .string S] w fun e w' => e = .returned (.bool (Form.mem S l)) ∧ w = w' := by
 obtain ⟨n, hn⟩ : ∃ n, n = l.length := ⟨_, rfl⟩
 rw [← hn]
 rw [← hn] at hl
 have Hn := Lib.hid hn
 clear hn
 go_enter Tryz.func235, Tryz.ntmps235
 go_wp2_with fail
 go_loopg [5] (n + 1) (fun k s5 wr => ∃ i : Nat, i ≤ n ∧ n - i < k ∧ s5 = .int .i64 i ∧ w = wr ∧ Hid (∀ q (h : q < l.length), q < i → ¬ l[q] = S))
 case atStart => exact ⟨0, by omega, by omega, rfl, rfl, Lib.hid (fun q h h0 => absurd h0 (by omega))⟩
 case round =>
  obtain ⟨i, hi, hg, rfl, rfl, HQ⟩ := hrel
  by_cases hlt : i < n
  ·have hil : i < l.length := by have := Hn.out; omega
   obtain ⟨o, ho⟩ : ∃ o, o = l[i] := ⟨_, rfl⟩
   have c0 : w.cell? ⟨x, i, none⟩ = some (.string o) := by rw [ho]; exact hL i hil
   by_cases e : o = S
   ·have HB : Hid (Form.mem S l = true) := Lib.hid (mem_at hil (ho.symm.trans e))
    subst e
    have ne := str_self o
    clear ho hL Hn HQ hil
    go_wp2_with fail
    go_ret
    exact ⟨by rw [HB.out]; rfl, rfl⟩
   ·have ne := str_ne e
    have HQ2 : Hid (∀ q (h : q < l.length), q < i + 1 → ¬ l[q] = S) := Lib.hid (fun q h h0 => by
     by_cases hq : q = i
     ·subst hq; rw [← ho]; exact e
     ·exact HQ.out q h (by omega))
    clear ho hL Hn HQ hil e
    go_wp2_with fail
    go_roundg (n - (i + 1) + 1)
    case measure => omega
    case rel => exact ⟨i + 1, by omega, by omega, rfl, rfl, HQ2⟩
  ·have HB : Hid (Form.mem S l = false) := Lib.hid (mem_none (fun q hq => HQ.out q hq (by have := Hn.out; omega)))
   clear hL Hn HQ
   go_wp2_with fail
   go_ret
   exact ⟨by rw [HB.out]; rfl, rfl⟩
theorem has_lay (l : List ByteArray) (S : ByteArray) (w : World) (t : TypeId) (hl : l.length ≤ 10) (b : Bool) (hb : Form.mem S l = b) :
  Calls Tryz.prog 235 #[.slice (some ⟨w.heap.size, 0, none⟩) l.length l.length, .string S] (w.alloc (.cells (l.map Value.string).toArray t)) fun e w' => e = .returned (.bool b) ∧ w.alloc (.cells (l.map Value.string).toArray t) = w' :=
 hb ▸ has_any w.heap.size l S _ hl (Strs.made w t l)
theorem has_at (l : List ByteArray) (S : ByteArray) (w : World) (g : Nat) (hg : w.heap.size = g) (t : TypeId) (hl : l.length ≤ 10) (b : Bool) (hb : Form.mem S l = b) :
  Calls Tryz.prog 235 #[.slice (some ⟨g, 0, none⟩) l.length l.length, .string S] (w.alloc (.cells (l.map Value.string).toArray t)) fun e w' => e = .returned (.bool b) ∧ w.alloc (.cells (l.map Value.string).toArray t) = w' :=
 hg ▸ has_lay l S w t hl b hb
def wordsB : List ByteArray := [⟨#[109, 111, 100]⟩, ⟨#[97, 110, 100]⟩, ⟨#[111, 114]⟩, ⟨#[110, 111, 116]⟩, ⟨#[114, 111, 117, 110, 100]⟩, ⟨#[102, 108, 111, 111, 114]⟩]
def pairsB : List ByteArray := [⟨#[60, 61]⟩, ⟨#[62, 61]⟩, ⟨#[60, 62]⟩]
def singlesB : List ByteArray := [⟨#[43]⟩, ⟨#[45]⟩, ⟨#[42]⟩, ⟨#[47]⟩, ⟨#[94]⟩, ⟨#[40]⟩, ⟨#[41]⟩, ⟨#[61]⟩, ⟨#[60]⟩, ⟨#[62]⟩]
abbrev NxtR (s : ByteArray) (i : Nat) (w : World) (n : Nat) : Prop := Calls Tryz.prog 196 #[.string s, .int .i64 i] w fun e w' => e = .returned (.int .i64 n) ∧ Below w.heap.size w w'
abbrev RnR (s : ByteArray) (i : Nat) (a b : Int) (n : Nat) : Prop := ∀ w, Calls Tryz.prog 234 #[.string s, .int .i64 i, .int .u8 a, .int .u8 b] w fun e w' => e = .returned (.int .i64 n) ∧ w = w'
theorem nxt_long (s : ByteArray) (i n : Nat) (w : World) (hs : s.size ≤ 1000) (hi : i ≤ 1000) (hR : RnR s i 48 57 n) (h9 : i + 9 < n) (hn : n ≤ 2000) : NxtR s i w 0 := by
 unfold RnR at hR
 go_enter Tryz.func196, Tryz.ntmps196
 go_wp2_with fail
 refine (hR _).mono ?_
 rintro e w1 ⟨rfl, rfl⟩
 go_wp2_with fail
 go_ret
 exact ⟨rfl, Below.refl _ _⟩
theorem nxt_end (s : ByteArray) (i n : Nat) (w : World) (hs : s.size ≤ 1000) (hi : i ≤ 1000) (hR : RnR s i 48 57 n) (h0 : i < n) (h9 : n ≤ i + 9) (hn : s.size ≤ n) : NxtR s i w n := by
 unfold RnR at hR
 go_enter Tryz.func196, Tryz.ntmps196
 go_wp2_with fail
 refine (hR _).mono ?_
 rintro e w1 ⟨rfl, rfl⟩
 go_wp2_with fail
 go_ret
 exact ⟨rfl, Below.refl _ _⟩
theorem nxt_int (s : ByteArray) (i n : Nat) (w : World) (hs : s.size ≤ 1000) (hi : i ≤ 1000) (hR : RnR s i 48 57 n) (h0 : i < n) (h9 : n ≤ i + 9) (hn : n < s.size) (hp : ¬ (s[n].toNat : Int) = 46) : NxtR s i w n := by
 unfold RnR at hR
 have hp' : ((s[n].toNat : Int) == 46) = false := by simpa using hp
 go_enter Tryz.func196, Tryz.ntmps196
 go_wp2_with fail
 refine (hR _).mono ?_
 rintro e w1 ⟨rfl, rfl⟩
 go_wp2_with fail
 go_ret
 exact ⟨rfl, Below.refl _ _⟩
theorem nxt_dec (s : ByteArray) (i n m v : Nat) (w : World) (hs : s.size ≤ 1000) (hi : i ≤ 1000) (hR : RnR s i 48 57 n) (h0 : i < n) (h9 : n ≤ i + 9) (hn : n < s.size) (hp : (s[n].toNat : Int) = 46) (hR2 : RnR s (n + 1) 48 57 m) (hm0 : n + 1 ≤ m) (hm : m ≤ 1000)
  (hv : n + 10 < m ∧ v = 0 ∨ m ≤ n + 10 ∧ n + 1 < m ∧ v = m ∨ m = n + 1 ∧ v = n) : NxtR s i w v := by
 unfold RnR at hR hR2
 rcases hv with ⟨a, rfl⟩ | ⟨a, b, rfl⟩ | ⟨rfl, rfl⟩
 all_goals
  go_enter Tryz.func196, Tryz.ntmps196
  go_wp2_with fail
  refine (hR _).mono ?_
  rintro e w1 ⟨rfl, rfl⟩
  go_wp2_with fail
  refine (hR2 _).mono ?_
  rintro e w1 ⟨rfl, rfl⟩
  go_wp2_with fail
  go_ret
  exact ⟨rfl, Below.refl _ _⟩
theorem nxt_word (s Q : ByteArray) (i k v : Nat) (b : Bool) (w : World) (hs : s.size ≤ 1000) (hi : i ≤ 1000) (hR : RnR s i 48 57 i) (hR2 : RnR s i 97 122 k) (h0 : i < k) (hk : k ≤ s.size) (hQ : s.extract i k = Q)
  (hW : Form.mem Q wordsB = b) (hv : v = if b = true then k else 0) : NxtR s i w v := by
 unfold RnR at hR hR2
 subst hv
 have hH := has_lay wordsB Q w 9 (by decide) b hW
 have hb := below_new0 w (.cells (wordsB.map Value.string).toArray 9)
 clear hW
 cases b
 all_goals
  go_enter Tryz.func196, Tryz.ntmps196
  go_wp2_with fail
  refine (hR _).mono ?_
  rintro e w1 ⟨rfl, rfl⟩
  go_wp2_with fail
  refine (hR2 _).mono ?_
  rintro e w1 ⟨rfl, rfl⟩
  go_wp2_with fail
  refine hH.mono ?_
  rintro e w1 ⟨rfl, rfl⟩
  go_wp2_with fail
  go_ret
  exact ⟨rfl, hb⟩
theorem nxt_pair (s Q : ByteArray) (i : Nat) (w : World) (hs : s.size ≤ 1000) (hi : i + 2 ≤ s.size) (hR : RnR s i 48 57 i) (hR2 : RnR s i 97 122 i) (hQ : s.extract i (i + 2) = Q) (hW : Form.mem Q pairsB = true) : NxtR s i w (i + 2) := by
 unfold RnR at hR hR2
 have hH := has_lay pairsB Q w 9 (by decide) true hW
 have hb := below_new0 w (.cells (pairsB.map Value.string).toArray 9)
 clear hW
 go_enter Tryz.func196, Tryz.ntmps196
 go_wp2_with fail
 refine (hR _).mono ?_
 rintro e w1 ⟨rfl, rfl⟩
 go_wp2_with fail
 refine (hR2 _).mono ?_
 rintro e w1 ⟨rfl, rfl⟩
 go_wp2_with fail
 refine hH.mono ?_
 rintro e w1 ⟨rfl, rfl⟩
 go_wp2_with fail
 go_ret
 exact ⟨rfl, hb⟩
theorem nxt_one1 (s O : ByteArray) (i : Nat) (v : Nat) (b : Bool) (w : World) (hs : s.size ≤ 1000) (hi0 : i < s.size) (hi : s.size < i + 2) (hR : RnR s i 48 57 i) (hR2 : RnR s i 97 122 i) (hO : s.extract i (i + 1) = O) (hW : Form.mem O singlesB = b) (hv : v = if b = true then i + 1 else 0) : NxtR s i w v := by
 unfold RnR at hR hR2
 subst hv
 have hH := has_lay singlesB O w 9 (by decide) b hW
 have hb := below_new0 w (.cells (singlesB.map Value.string).toArray 9)
 clear hW
 cases b
 all_goals
  go_enter Tryz.func196, Tryz.ntmps196
  go_wp2_with fail
  refine (hR _).mono ?_
  rintro e w1 ⟨rfl, rfl⟩
  go_wp2_with fail
  refine (hR2 _).mono ?_
  rintro e w1 ⟨rfl, rfl⟩
  go_wp2_with fail
  refine hH.mono ?_
  rintro e w1 ⟨rfl, rfl⟩
  go_wp2_with fail
  go_ret
  exact ⟨rfl, hb⟩
theorem nxt_one2 (s Q O : ByteArray) (i : Nat) (v : Nat) (b : Bool) (w : World) (hs : s.size ≤ 1000) (hi : i + 2 ≤ s.size) (hR : RnR s i 48 57 i) (hR2 : RnR s i 97 122 i) (hQ : s.extract i (i + 2) = Q) (hW1 : Form.mem Q pairsB = false) (hO : s.extract i (i + 1) = O) (hW : Form.mem O singlesB = b) (hv : v = if b = true then i + 1 else 0) : NxtR s i w v := by
 unfold RnR at hR hR2
 subst hv
 have hH := has_lay pairsB Q w 9 (by decide) false hW1
 have hG := has_at singlesB O (w.alloc (.cells (pairsB.map Value.string).toArray 9)) (w.heap.size + 1) (by simp) 9 (by decide) b hW
 have hb := (below_new0 w (.cells (pairsB.map Value.string).toArray 9)).alloc (by simp) (.cells (singlesB.map Value.string).toArray 9)
 clear hW hW1
 cases b
 all_goals
  go_enter Tryz.func196, Tryz.ntmps196
  go_wp2_with fail
  refine (hR _).mono ?_
  rintro e w1 ⟨rfl, rfl⟩
  go_wp2_with fail
  refine (hR2 _).mono ?_
  rintro e w1 ⟨rfl, rfl⟩
  go_wp2_with fail
  refine hH.mono ?_
  rintro e w1 ⟨rfl, rfl⟩
  go_wp2_with fail
  refine hG.mono ?_
  rintro e w1 ⟨rfl, rfl⟩
  go_wp2_with fail
  go_ret
  exact ⟨rfl, hb⟩
theorem ext_list (s : ByteArray) (a b : Nat) : (s.extract a b).data.toList = (s.data.toList.drop a).take (b - a) := by
 simp
theorem mem_map (Q : ByteArray) (L : List (List UInt8)) : Form.mem Q (L.map fun l => (⟨l.toArray⟩ : ByteArray)) = decide (Q.data.toList ∈ L) := by
 have h : Q ∈ (L.map fun l => (⟨l.toArray⟩ : ByteArray)) ↔ Q.data.toList ∈ L := by
  rw [List.mem_map]
  constructor
  ·rintro ⟨l, hl, rfl⟩
   exact hl
  ·intro h
   exact ⟨_, h, ByteArray.ext (Array.toList_inj.1 (by simp))⟩
 by_cases hq : Q.data.toList ∈ L
 ·rw [decide_eq_true hq]; exact Form.mem_iff.2 (h.2 hq)
 ·rw [decide_eq_false hq]
  cases hm : Form.mem Q (L.map fun l => (⟨l.toArray⟩ : ByteArray)) with
  | false => rfl
  | true => exact absurd (h.1 (Form.mem_iff.1 hm)) hq
theorem mem_words (Q : ByteArray) : Form.mem Q wordsB = decide (Q.data.toList ∈ Form.words) := mem_map Q Form.words
theorem mem_pairs (Q : ByteArray) : Form.mem Q pairsB = decide (Q.data.toList ∈ Form.pairs) := mem_map Q Form.pairs
theorem mem_singles (Q : ByteArray) (c : UInt8) (h : Q.data.toList = [c]) : Form.mem Q singlesB = decide (c ∈ Form.singles) := by
 have := mem_map Q (Form.singles.map fun c => [c])
 rw [h] at this
 rw [show singlesB = ((Form.singles.map fun c => [c]).map fun l => (⟨l.toArray⟩ : ByteArray)) from rfl, this]
 congr 1
 simp
def nxt (s : ByteArray) (i : Nat) : Nat := if Form.next (s.data.toList.drop i) = 0 then 0 else i + Form.next (s.data.toList.drop i)
theorem nxtRef_any (s : ByteArray) (i : Nat) (w : World) (hs : s.size ≤ 500) (hi : i < s.size) : NxtR s i w (nxt s i) := by
 have R1 : RnR s i 48 57 _ := fun w => runRef_any s i 48 57 w (by omega) (by omega)
 have R2 : RnR s i 97 122 _ := fun w => runRef_any s i 97 122 w (by omega) (by omega)
 have L1 := leadD s 48 57 i (by omega)
 have L2 := leadD s 97 122 i (by omega)
 have el : (s.data.toList.drop i).length = s.size - i := by simp
 have hd0 : (s.data.toList.drop i).head? = some s[i] := by
  rw [List.head?_drop, List.getElem?_eq_getElem (by simpa using hi), Num.at_list s _ hi]
 unfold nxt Form.next
 simp only
 by_cases n0 : 0 < Form.leadR 48 57 (s.data.toList.drop i)
 ·simp only [if_pos n0]
  by_cases n9 : 9 < Form.leadR 48 57 (s.data.toList.drop i)
  ·simp only [if_pos n9, if_true]
   exact nxt_long s i _ w (by omega) (by omega) R1 (by omega) (by omega)
  ·simp only [if_neg n9]
   by_cases hn : i + Form.leadR 48 57 (s.data.toList.drop i) < s.size
   ·have hh : ((s.data.toList.drop i).drop (Form.leadR 48 57 (s.data.toList.drop i))).head? = some s[i + Form.leadR 48 57 (s.data.toList.drop i)] := by
     rw [List.drop_drop, List.head?_drop, List.getElem?_eq_getElem (by simpa using hn), Num.at_list s _ hn]
    rw [hh]
    by_cases hp : s[i + Form.leadR 48 57 (s.data.toList.drop i)] = 46
    ·simp only [hp, if_true]
     have R3 := fun w => runRef_any s (i + Form.leadR 48 57 (s.data.toList.drop i) + 1) 48 57 w (by omega) (by omega)
     have L3 := leadD s 48 57 (i + Form.leadR 48 57 (s.data.toList.drop i) + 1) (by omega)
     have e3 : (s.data.toList.drop i).drop (Form.leadR 48 57 (s.data.toList.drop i) + 1) = s.data.toList.drop (i + Form.leadR 48 57 (s.data.toList.drop i) + 1) := by
      rw [List.drop_drop, Nat.add_assoc]
     rw [e3]
     refine nxt_dec s i _ _ _ w (by omega) (by omega) R1 (by omega) (by omega) hn (by rw [hp]; rfl) R3 (by omega) (by omega) ?_
     generalize Form.leadR 48 57 (s.data.toList.drop (i + Form.leadR 48 57 (s.data.toList.drop i) + 1)) = m at *
     by_cases h : 9 < m
     ·exact .inl ⟨by omega, by simp [h]⟩
     ·by_cases h' : 0 < m
      ·refine .inr (.inl ⟨by omega, by omega, ?_⟩)
       simp only [if_neg h, if_pos h']
       rw [if_neg (by omega)]
       omega
      ·refine .inr (.inr ⟨by omega, ?_⟩)
       simp only [if_neg h, if_neg h']
       rw [if_neg (by omega)]
    ·have hp' : ¬ some s[i + Form.leadR 48 57 (s.data.toList.drop i)] = some 46 := by simpa using hp
     simp only [if_neg hp']
     rw [if_neg (by omega)]
     refine nxt_int s i _ w (by omega) (by omega) R1 (by omega) (by omega) hn (fun e => hp ?_)
     apply UInt8.toNat_inj.1
     show _ = 46
     omega
   ·have hh : ((s.data.toList.drop i).drop (Form.leadR 48 57 (s.data.toList.drop i))).head? = none := by
     rw [List.drop_drop, List.head?_drop, List.getElem?_eq_none (by simp; omega)]
    rw [hh]
    simp only [reduceCtorEq, if_false]
    rw [if_neg (by omega)]
    exact nxt_end s i _ w (by omega) (by omega) R1 (by omega) (by omega) (by omega)
 ·simp only [if_neg n0]
  replace R1 : RnR s i 48 57 i := by rw [show Form.leadR 48 57 (s.data.toList.drop i) = 0 by omega] at R1; exact R1
  by_cases k0 : 0 < Form.leadR 97 122 (s.data.toList.drop i)
  ·simp only [if_pos k0]
   have hm := mem_words (s.extract i (i + Form.leadR 97 122 (s.data.toList.drop i)))
   rw [ext_list, show i + Form.leadR 97 122 (s.data.toList.drop i) - i = Form.leadR 97 122 (s.data.toList.drop i) by omega] at hm
   refine nxt_word s _ i _ _ _ w (by omega) (by omega) R1 R2 (by omega) (by omega) rfl hm ?_
   by_cases hw : (s.data.toList.drop i).take (Form.leadR 97 122 (s.data.toList.drop i)) ∈ Form.words
   ·simp only [if_pos hw, decide_eq_true hw, if_true]
    rw [if_neg (by omega)]
   ·simp [hw]
  ·simp only [if_neg k0]
   replace R2 : RnR s i 97 122 i := by rw [show Form.leadR 97 122 (s.data.toList.drop i) = 0 by omega] at R2; exact R2
   have hO : (s.extract i (i + 1)).data.toList = [s[i]] := by
    rw [ext_list, show i + 1 - i = 1 by omega]
    cases hl : s.data.toList.drop i with
    | nil => rw [hl] at hd0; cases hd0
    | cons c r => rw [hl] at hd0; simp at hd0; simp [hd0]
   have hS := mem_singles _ _ hO
   rw [hd0, Option.any_some]
   by_cases h2 : i + 2 ≤ s.size
   ·have hm := mem_pairs (s.extract i (i + 2))
    rw [ext_list, show i + 2 - i = 2 by omega] at hm
    by_cases hp : (s.data.toList.drop i).take 2 ∈ Form.pairs
    ·rw [decide_eq_true hp] at hm
     simp only [if_pos hp]
     exact nxt_pair s _ i w (by omega) h2 R1 R2 rfl hm
    ·rw [decide_eq_false hp] at hm
     simp only [if_neg hp]
     refine nxt_one2 s _ _ i _ _ w (by omega) h2 R1 R2 rfl hm rfl hS ?_
     by_cases hc : s[i] ∈ Form.singles
     ·simp [hc]
     ·simp [hc]
   ·have hp : (s.data.toList.drop i).take 2 ∉ Form.pairs := by
     intro hp
     have : ((s.data.toList.drop i).take 2).length = 2 := by
      simp only [Form.pairs, List.mem_cons, List.not_mem_nil, or_false] at hp
      rcases hp with h | h | h <;> rw [h] <;> rfl
     rw [List.length_take] at this
     omega
    simp only [if_neg hp]
    refine nxt_one1 s _ i _ _ w (by omega) hi (by omega) R1 R2 rfl hS ?_
    by_cases hc : s[i] ∈ Form.singles
    ·simp [hc]
    ·simp [hc]
theorem own_below {w w' : World} {B e size n : Nat} {v : Value} {xs : List Value} (h : w.ownsRow B e size v n xs) (hb : Below w.heap.size w w') : w'.ownsRow B e size v n xs := by
 refine ⟨h.1, ?_⟩
 rcases h.2 with hn | ⟨g, cap, cur, rfl, hg, hgg, rest⟩
 ·exact .inl hn
 ·exact .inr ⟨g, cap, cur, rfl, hg, by rw [hb.block g (Array.getElem?_eq_some_iff.1 hgg).1]; exact hgg, rest⟩
theorem drop_cons {s : ByteArray} {i : Nat} (h : i < s.size) : s.data.toList.drop i = s[i] :: s.data.toList.drop (i + 1) := by
 rw [Num.at_list s i h]
 exact (List.getElem_cons_drop (by simpa using h)).symm
theorem tokRef_any (s : ByteArray) (w : World) (hs : s.size ≤ 500) :
  Calls Tryz.prog 141 #[.string s] w (ScanPost w (Form.tokens s.data.toList)) := by
 obtain ⟨i0, hi, hz0, hz1, hz2⟩ := info_parts infoS
 generalize hO : Form.tokens s.data.toList = O
 go_enter Tryz.func141, Tryz.ntmps141
 go_wp2_with fail
 go_loopg [4, 5, 6] (s.size + 1) (fun q s4 s5 s6 wr => ∃ (i : Nat) (acc : List ByteArray), s.size - i < q ∧ i ≤ s.size ∧ acc.length ≤ i ∧ s5 = .int .i64 i ∧ wr.ownsRow w.heap.size 9 1 s4 acc.length (acc.map Value.string)
  ∧ Below w.heap.size w wr ∧ O = (Form.tokens (s.data.toList.drop i)).map (acc ++ ·))
 case atStart => exact ⟨0, [], by omega, by omega, by simp, rfl, World.ownsRow_nil _ _ _ _, Below.refl _ _, by rw [← hO]; cases h : Form.tokens s.data.toList <;> simp [h]⟩
 case round =>
  obtain ⟨i, acc, hq, hil, hlen, rfl, hown, hb, hev⟩ := hrel
  have HE := Lib.hid hev
  clear hev hO
  by_cases h0 : s.size ≤ i
  ·have HO := Lib.hid hown
   clear hown
   go_wp2_with fail
   go_ret2
   refine ⟨hb, ?_⟩
   rw [HE.out, List.drop_of_length_le (by simpa using h0), Form.tokens_nil]
   simp only [Option.map_some, List.append_nil]
   exact ⟨_, rfl, HO.out⟩
  ·have h0' : i < s.size := by omega
   have hc := drop_cons h0'
   by_cases hbl : Form.blank s[i] = true
   ·have HE2 : Hid (O = (Form.tokens (s.data.toList.drop (i + 1))).map (acc ++ ·)) := Lib.hid (by rw [HE.out]; conv => lhs; rw [hc, Form.tokens_blank hbl])
    have HO := Lib.hid hown
    clear hown hc HE
    rcases (blank_iff _).1 hbl with h | h | h
    ·have b1 : ((s[i].toNat : Int) == 9) = false := by simp; omega
     have b2 : ((s[i].toNat : Int) == 10) = false := by simp; omega
     have b3 : ((s[i].toNat : Int) == 32) = true := by simp; omega
     clear h hbl
     go_wp2_with fail
     go_roundg (s.size - (i + 1) + 1)
     case measure => omega
     case rel => exact ⟨i + 1, acc, by omega, by omega, by omega, rfl, HO.out, hb, HE2.out⟩
    ·have b1 : ((s[i].toNat : Int) == 9) = true := by simp; omega
     clear h hbl
     go_wp2_with fail
     go_roundg (s.size - (i + 1) + 1)
     case measure => omega
     case rel => exact ⟨i + 1, acc, by omega, by omega, by omega, rfl, HO.out, hb, HE2.out⟩
    ·have b1 : ((s[i].toNat : Int) == 9) = false := by simp; omega
     have b2 : ((s[i].toNat : Int) == 10) = true := by simp; omega
     clear h hbl
     go_wp2_with fail
     go_roundg (s.size - (i + 1) + 1)
     case measure => omega
     case rel => exact ⟨i + 1, acc, by omega, by omega, by omega, rfl, HO.out, hb, HE2.out⟩
   ·have hnb := mt (blank_iff _).2 hbl
    have hbl' : Form.blank s[i] = false := by simpa using hbl
    have b1 : ((s[i].toNat : Int) == 9) = false := by simp; omega
    have b2 : ((s[i].toNat : Int) == 10) = false := by simp; omega
    have b3 : ((s[i].toNat : Int) == 32) = false := by simp; omega
    have hN := fun w => nxtRef_any s i w hs h0'
    have hle := Form.next_le (s.data.toList.drop i)
    have hle' : i + Form.next (s.data.toList.drop i) ≤ s.size := by simp at hle; omega
    unfold NxtR nxt at hN
    by_cases hn : Form.next (s.data.toList.drop i) = 0
    ·simp only [hn, if_true] at hN
     have HE2 : Hid (O = none) := Lib.hid (by rw [HE.out, hc, Form.tokens_none hbl' (by rw [← hc]; exact hn)]; rfl)
     clear hown HE hc hbl hbl' hnb hle hle' hn
     go_wp2_with fail
     refine (hN _).mono ?_
     rintro e w1 ⟨rfl, hb1⟩
     go_wp2_with fail
     go_ret2
     refine ⟨hb.trans (hb1.mono hb.size), ?_⟩
     rw [HE2.out]
     exact rfl
    ·obtain ⟨n, hne⟩ : ∃ n, Form.next (s.data.toList.drop i) = n := ⟨_, rfl⟩
     simp only [hne] at hN hle' hn
     simp only [if_neg hn] at hN
     obtain ⟨tok, htok⟩ : ∃ tok, s.extract i (i + n) = tok := ⟨_, rfl⟩
     have e3 : (⟨((s.data.toList.drop i).take n).toArray⟩ : ByteArray) = tok := by rw [← htok]; apply ByteArray.ext; apply Array.toList_inj.1; rw [ext_list, show i + n - i = n by omega]
     have HE2 : Hid (O = (Form.tokens (s.data.toList.drop (i + n))).map ((acc ++ [tok]) ++ ·)) := Lib.hid (by
      rw [HE.out, ← map_app, ← e3, ← hne]
      congr 1
      conv => lhs; rw [hc, Form.tokens_some hbl' (by rw [← hc, hne]; exact hn)]
      rw [← hc, List.drop_drop])
     obtain ⟨e, he⟩ : ∃ e, i + n = e := ⟨_, rfl⟩
     simp only [he] at hN hle' HE2 htok
     have hie : i < e := by omega
     have HT := Lib.hid htok
     clear HE hc hbl hbl' hnb hle e3 hne hn he
     have hsz := hb.size
     have hx1 : tok = s.extract i e := htok.symm
     clear htok
     go_wp2_with fail
     refine (hN _).mono ?_
     rintro e' w1 ⟨rfl, hb1⟩
     have hown1 := own_below hown hb1
     have hbw := hb.trans (hb1.mono hb.size)
     have hsz1 := hbw.size
     go_wp2_with (at_builtin; refine wpList_append_own _ rfl _ _ 22 rfl w.heap.size 9 i0 (.string ByteArray.empty) 1 16 Tryz.underlying22 hi hz0 hz1 hz2 rfl (by decide) _ _ _ rfl (hown1.alloc _) ⟨w1.heap.size, 0, none⟩ 1 1 [.string (s.extract i e)] rfl rfl (cell_one_new _ _ _) (fun x hx => by simp at hx; subst hx; rfl) (by unfold maxLen; omega) (by omega) (by simp; omega) ?_; intro v' w3 hown' hgrow3 hnil3)
     go_roundg (s.size - e + 1)
     case measure => omega
     case rel => exact ⟨e, acc ++ [s.extract i e], by omega, by omega, by simp; omega, rfl, by simpa using hown', (hbw.alloc hsz1 _).grown hgrow3 (by simp; omega) (fun q hq => (hown1.lt q hq).1), by rw [← hx1]; exact HE2.out⟩
end Go.Proofs.YtcklofamaooegaaGreatDoor
