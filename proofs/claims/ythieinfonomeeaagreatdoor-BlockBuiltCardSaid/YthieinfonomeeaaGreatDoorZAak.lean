/-
  The claim's own texts, packed. Conditions: those typed in each theorem.
-/
import Derived.Test.YthieinfonomeeaaGreatDoorZAaf
import Derived.Test.YthieinfonomeeaaGreatDoorZAag
import Derived.Deep.RegionHeld3
namespace Go.Proofs.YthieinfonomeeaaGreatDoor
open Go.RowKit
set_option linter.unusedVariables false
end Go.Proofs.YthieinfonomeeaaGreatDoor
namespace Go.Proofs.YthieinfonomeeaaGreatDoor
open Go.RowKit Doc
set_option linter.unusedVariables false
namespace Doc.Ins
theorem plain_app : ∀ a b : Ins, (a.app b).plain = a.plain ++ b.plain
 | nil, b => rfl
 | cons a t s n h k r, b => by simp only [app, plain, plain_app r b, List.append_assoc]
theorem bulk_app : ∀ a b : Ins, (a.app b).bulk = a.bulk + b.bulk
 | nil, b => by simp [app, bulk]
 | cons a t s n h k r, b => by simp only [app, bulk, bulk_app r b]; omega
end Doc.Ins
theorem Kept.low {b : Nat} {w w' : World} (hb : Below b w w') : Kept (fun k => k < b) (fun k => k < b) w w' := fun k hk _ => ⟨hk, hb.block k hk⟩
set_option maxRecDepth 10000 in
set_option maxHeartbeats 2000000 in
theorem plainB_any : ∀ (N : Nat) (L : Ins) (p : Option Addr) (c b : Nat) (l0 : List UInt8) (w : World), L.size < N → L.size ≤ 1000000 → l0.length + L.bulk ≤ 100000000000000 → Buf b l0 w → insS.sl (fun k => k < b) w (.slice p L.len c) L →
  Calls Tryz.prog 116 #[.pointer (some ⟨b, 0, none⟩), .slice p L.len c] w fun e w' => e = .returned (.tuple #[]) ∧ Buf b (l0 ++ L.plain) w' ∧ Below b w w' := by
 intro N
 induction N with
 | zero => intro L p c b l0 w hN; exact absurd hN (Nat.not_lt_zero _)
 | succ N ih =>
   intro L p c b l0 w hN hM hK hB hv
   obtain ⟨hF, -, hnc, hc⟩ := Shp.rest_start hv
   have hlen := L.len_size
   obtain ⟨n, hn⟩ : ∃ n, n = L.len := ⟨_, rfl⟩
   rw [← hn] at hlen hnc ⊢
   have HN := Lib.hid hn
   have hbw := hB.lt
   clear hn hv
   go_enter Tryz.func116, Tryz.ntmps116
   go_wp2_with fail
   go_loopg [5, 8] (n + 1) (fun g s5 s8 wr => ∃ (A R : Ins), A.app R = L ∧ A.len + R.len = n ∧ R.len < g ∧ s8 = .int .i64 A.len ∧ Buf b (l0 ++ A.plain) wr ∧ Below b w wr ∧ insS.rest (fun k => k < b) w p A.len R)
   case atStart => exact ⟨.nil, L, rfl, by simp [Ins.len]; exact HN.out.symm, by rw [← HN.out]; omega, rfl, by simpa [Ins.plain] using hB, Below.refl _ _, hF⟩
   case round =>
    obtain ⟨A, R, hAR, hi1, hg, rfl, hBB, hb, hR⟩ := hrel
    have HAR := Lib.hid hAR
    generalize hi : A.len = i at *
    have HI := Lib.hid hi
    clear hAR hi
    cases R with
    | nil =>
      have g1 : decide (i < n) = false := by simp [Ins.len] at hi1; simp; omega
      have HO := Lib.hid hBB
      clear hi1 hR hBB
      go_wp2_with fail
      go_end0
      have e1 : A = L := by have := HAR.out; simpa using this
      subst e1
      exact ⟨rfl, HO.out, hb⟩
    | cons a t s n' h k r =>
      rcases hR with hR | ⟨d, o, ys, rfl, hqb, hbl, hA, hE⟩
      ·cases hR
      ·obtain ⟨kp, kc, c0, c1, c2, c3, c4, c5, hk, hr⟩ := (IEnc.on (Kept.low hb) hE).head (hA.of_heap (hb.block d hqb))
       have g1 : decide (i < n) = true := by simp [Ins.len] at hi1; simp; omega
       have hin : i < n := by simp [Ins.len] at hi1; omega
       have hsz : L.size = A.size + (k.size + r.size + 1) := by rw [← HAR.out, Ins.size_app]; simp only [Ins.size]
       have hbk : L.bulk = A.bulk + (t.size + 1 + k.bulk + r.bulk) := by rw [← HAR.out, Ins.bulk_app]; simp only [Ins.bulk]
       have hks : k.size < N := by omega
       have hks2 : k.size ≤ 1000000 := by omega
       have hpl := A.plain_le
       have hA2 : (l0 ++ A.plain).length = l0.length + A.plain.length := List.length_append
       have hT : insS.rest (fun k => k < b) w (some ⟨d, o, none⟩) (i + 1) r := .inr ⟨d, o, ys, rfl, hqb, hbl, hA, hE.tail⟩
       have HT := Lib.hid hT
       have HG := Lib.hid hi1
       have HGG := Lib.hid hg
       have hsb := hBB.lt
       have hBx := hBB.on (below_new0 wr (.cells #[.int .i64 a, .string t, .int .i64 s, .string n', .string h, .slice kp k.len kc] 56))
       have hbx : Below b wr (wr.alloc (.cells #[.int .i64 a, .string t, .int .i64 s, .string n', .string h, .slice kp k.len kc] 56)) := (below_new0 _ _).mono (by omega)
       have HBX := Lib.hid hBx
       have HM : Hid (∀ x, (if a = 1 then t.data.toList else if a = 2 ∨ a = 3 ∨ a = 4 then k.plain else if a = 6 then [32] else []) = x → (l0 ++ A.plain) ++ x = l0 ++ (A.app (.cons a t s n' h k .nil)).plain) := Lib.hid (fun x hx => by rw [Ins.plain_app]; simp only [Ins.plain, List.append_nil, hx, List.append_assoc])
       have hl : (A.app (.cons a t s n' h k .nil)).len = i + 1 := by rw [Ins.len_app, HI.out]; rfl
       have HL := Lib.hid hl
       clear hE hA hr hi1 hsz hT hg hBB hBx hl
       by_cases q1 : a = 1
       ·have e1 : (a == 1) = true := by simpa using q1
        have HM2 := Lib.hid (HM.out t.data.toList (by rw [if_pos q1]))
        have hC := buf_string b _ t _ HBX.out (by omega)
        have HC := Lib.hid hC
        clear q1 hC hbk
        go_wp2_with fail
        refine HC.out.mono ?_
        rintro e w1 ⟨rfl, hB1, hr1⟩
        have HB1 := Lib.hid hB1
        clear hB1
        go_wp2_with fail
        have HG2 := HG.out
        have HG3 := HGG.out
        simp only [Ins.len] at HG2 HG3
        go_roundg (r.len + 1)
        case measure => omega
        case rel => exact ⟨A.app (.cons a t s n' h k .nil), r, by rw [Ins.app_assoc]; exact HAR.out, by rw [HL.out]; omega, by omega, by rw [HL.out]; go_num, by rw [← HM2.out]; exact HB1.out, hb.trans (hbx.trans hr1.1), by rw [HL.out]; exact HT.out⟩
       ·have e1 : (a == 1) = false := by simpa using q1
        by_cases h2 : a = 2 ∨ a = 3 ∨ a = 4
        ·have HM2 := Lib.hid (HM.out k.plain (by rw [if_neg q1, if_pos h2]))
         have hx := three_kinds h2
         have hC := ih k kp kc b _ _ hks hks2 (by omega) HBX.out (insS.sl_on hk (Kept.alloc _))
         have HC := Lib.hid hC
         clear q1 h2 hC hk hbk
         rcases hx with e2 | ⟨e2, e3⟩ | ⟨e2, e3, e4⟩
         all_goals
          go_wp2_with fail
          refine HC.out.mono ?_
          rintro e w1 ⟨rfl, hB1, hr1⟩
          have HB1 := Lib.hid hB1
          clear hB1
          go_wp2_with fail
          have HG2 := HG.out
          have HG3 := HGG.out
          simp only [Ins.len] at HG2 HG3
          go_roundg (r.len + 1)
          case measure => omega
          case rel => exact ⟨A.app (.cons a t s n' h k .nil), r, by rw [Ins.app_assoc]; exact HAR.out, by rw [HL.out]; omega, by omega, by rw [HL.out]; go_num, by rw [← HM2.out]; exact HB1.out, hb.trans (hbx.trans hr1), by rw [HL.out]; exact HT.out⟩
        ·have e2 : (a == 2) = false := by simp; omega
         have e3 : (a == 3) = false := by simp; omega
         have e4 : (a == 4) = false := by simp; omega
         by_cases h6 : a = 6
         ·have HM2 := Lib.hid (HM.out [32] (by rw [if_neg q1, if_neg h2, if_pos h6]))
          have e6 : (a == 6) = true := by simpa using h6
          have hC := buf_byte b _ 32 _ HBX.out (by omega)
          rw [show ((32 : UInt8).toNat : Int) = 32 from rfl] at hC
          have HC := Lib.hid hC
          clear q1 h2 h6 hC hbk
          go_wp2_with fail
          refine HC.out.mono ?_
          rintro e w1 ⟨rfl, hB1, hr1⟩
          have HB1 := Lib.hid hB1
          clear hB1
          go_wp2_with fail
          have HG2 := HG.out
          have HG3 := HGG.out
          simp only [Ins.len] at HG2 HG3
          go_roundg (r.len + 1)
          case measure => omega
          case rel => exact ⟨A.app (.cons a t s n' h k .nil), r, by rw [Ins.app_assoc]; exact HAR.out, by rw [HL.out]; omega, by omega, by rw [HL.out]; go_num, by rw [← HM2.out]; exact HB1.out, hb.trans (hbx.trans hr1.1), by rw [HL.out]; exact HT.out⟩
         ·have HM2 := Lib.hid (HM.out [] (by rw [if_neg q1, if_neg h2, if_neg h6]))
          have e6 : (a == 6) = false := by simpa using h6
          clear q1 h2 h6 hbk
          go_wp2_with fail
          have HG2 := HG.out
          have HG3 := HGG.out
          simp only [Ins.len] at HG2 HG3
          go_roundg (r.len + 1)
          case measure => omega
          case rel => exact ⟨A.app (.cons a t s n' h k .nil), r, by rw [Ins.app_assoc]; exact HAR.out, by rw [HL.out]; omega, by omega, by rw [HL.out]; go_num, by rw [← HM2.out, List.append_nil]; exact HBX.out, hb.trans hbx, by rw [HL.out]; exact HT.out⟩
set_option maxRecDepth 10000 in
set_option maxHeartbeats 1000000 in
theorem plain_any (q : Nat → Prop) (L : Ins) (p : Option Addr) (c : Nat) (w : World) (hM : L.size ≤ 1000000) (hK : L.bulk ≤ 100000000000000) (hv : insS.sl q w (.slice p L.len c) L) :
  Calls Tryz.prog 81 #[.slice p L.len c] w fun e w' => e = .returned (.string ⟨L.plain.toArray⟩) ∧ Below w.heap.size w w' := by
 have hC := plainB_any _ L p c w.heap.size [] _ (Nat.lt_succ_self _) hM (by simpa using hK) (buf_new w) (insS.sl_on hv (fun k hk hl => ⟨hl, (Kept.alloc (q := q) _ k hk hl).2⟩))
 simp only [List.nil_append] at hC
 go_enter Tryz.func81, Tryz.ntmps81
 go_wp2_with fail
 refine hC.mono ?_
 rintro e w1 ⟨rfl, hB1, hb1⟩
 go_wp2_with fail
 refine (buf_text _ _ _ hB1).mono ?_
 rintro e w2 ⟨rfl, hB2, hr2⟩
 go_wp2_with fail
 go_ret
 exact ⟨rfl, ((below_new0 _ _).trans (hb1.mono (Nat.le_refl _))).trans hr2.1⟩
end Go.Proofs.YthieinfonomeeaaGreatDoor
namespace Go.Proofs.YthieinfonomeeaaGreatDoor
open Go.RowKit Doc
set_option linter.unusedVariables false
def Doc.Bls.ptxt : Bls → List UInt8
 | .nil => []
 | .cons a _ t i k r => (if a = 1 ∨ a = 2 ∨ a = 4 ∨ a = 9 then i.plain ++ [10] else if a = 6 then t.data.toList ++ [10] else []) ++ k.ptxt ++ r.ptxt
theorem Doc.Bls.ptxt_app : ∀ a b : Bls, (a.app b).ptxt = a.ptxt ++ b.ptxt
 | .nil, b => rfl
 | .cons a l t i k r, b => by simp only [Bls.app, Bls.ptxt, ptxt_app r b, List.append_assoc]
theorem Doc.Bls.bulk_app : ∀ a b : Bls, (a.app b).bulk = a.bulk + b.bulk
 | .nil, b => by simp [Bls.app, Bls.bulk]
 | .cons a l t i k r, b => by simp only [Bls.app, Bls.bulk, bulk_app r b]; omega
theorem Doc.Bls.ptxt_le : ∀ a : Bls, a.ptxt.length ≤ a.bulk
 | .nil => Nat.le_refl _
 | .cons a l t i k r => by
   have h1 := ptxt_le k
   have h2 := ptxt_le r
   have h3 := i.plain_le
   have h4 : t.data.toList.length = t.size := by simp
   simp only [Bls.ptxt, Bls.bulk, List.length_append]
   split
   ·simp only [List.length_append, List.length_singleton]; omega
   ·split
    ·simp only [List.length_append, List.length_singleton]; omega
    ·simp only [List.length_nil]; omega
set_option maxRecDepth 10000 in
set_option maxHeartbeats 4000000 in
theorem bplainB_any : ∀ (N : Nat) (L : Bls) (p : Option Addr) (c b : Nat) (l0 : List UInt8) (w : World), L.size < N → L.size ≤ 1000000 → l0.length + L.bulk ≤ 10000000000000 → Buf b l0 w → blsS.sl (fun k => k < b) w (.slice p L.len c) L →
  Calls Tryz.prog 40 #[.pointer (some ⟨b, 0, none⟩), .slice p L.len c] w fun e w' => e = .returned (.tuple #[]) ∧ Buf b (l0 ++ L.ptxt) w' ∧ Below b w w' := by
 intro N
 induction N with
 | zero => intro L p c b l0 w hN; exact absurd hN (Nat.not_lt_zero _)
 | succ N ih =>
   intro L p c b l0 w hN hM hK hB hv
   obtain ⟨hF, -, hnc, hc⟩ := Shp.rest_start hv
   have hlen := L.len_size
   obtain ⟨n, hn⟩ : ∃ n, n = L.len := ⟨_, rfl⟩
   rw [← hn] at hlen hnc ⊢
   have HN := Lib.hid hn
   have hbw := hB.lt
   clear hn hv
   go_enter Tryz.func40, Tryz.ntmps40
   go_wp2_with fail
   go_loopg [5, 8] (n + 1) (fun g s5 s8 wr => ∃ (A R : Bls), A.app R = L ∧ A.len + R.len = n ∧ R.len < g ∧ s8 = .int .i64 A.len ∧ Buf b (l0 ++ A.ptxt) wr ∧ Below b w wr ∧ blsS.rest (fun k => k < b) w p A.len R)
   case atStart => exact ⟨.nil, L, rfl, by simp [Bls.len]; exact HN.out.symm, by rw [← HN.out]; omega, rfl, by simpa [Bls.ptxt] using hB, Below.refl _ _, hF⟩
   case round =>
    obtain ⟨A, R, hAR, hi1, hg, rfl, hBB, hb, hR⟩ := hrel
    have HAR := Lib.hid hAR
    generalize hi : A.len = i at *
    have HI := Lib.hid hi
    clear hAR hi
    cases R with
    | nil =>
      have g1 : decide (i < n) = false := by simp [Bls.len] at hi1; simp; omega
      have HO := Lib.hid hBB
      clear hi1 hR hBB
      go_wp2_with fail
      go_end0
      have e1 : A = L := by have := HAR.out; simpa using this
      subst e1
      exact ⟨rfl, HO.out, hb⟩
    | cons a l t ii k r =>
      rcases hR with hR | ⟨d, o, ys, rfl, hqb, hbl, hA, hE⟩
      ·cases hR
      ·obtain ⟨ip, ic, kp, kc, c0, c1, c2, c3, c4, hisl, hk, hr⟩ := (BEnc.on (Kept.low hb) hE).head (hA.of_heap (hb.block d hqb))
       have g1 : decide (i < n) = true := by simp [Bls.len] at hi1; simp; omega
       have hin : i < n := by simp [Bls.len] at hi1; omega
       have hsz : L.size = A.size + (ii.size + k.size + r.size + 1) := by rw [← HAR.out, Bls.size_app]; simp only [Bls.size]
       have hbk : L.bulk = A.bulk + (t.size + 1 + ii.bulk + k.bulk + r.bulk) := by rw [← HAR.out, Bls.bulk_app]; simp only [Bls.bulk]
       have hks : k.size < N := by omega
       have hks2 : k.size ≤ 1000000 := by omega
       have his2 : ii.size ≤ 1000000 := by omega
       have hpl := A.ptxt_le
       have hipl := ii.plain_le
       have hA2 : (l0 ++ A.ptxt).length = l0.length + A.ptxt.length := List.length_append
       have hT : blsS.rest (fun k => k < b) w (some ⟨d, o, none⟩) (i + 1) r := .inr ⟨d, o, ys, rfl, hqb, hbl, hA, hE.tail⟩
       have HT := Lib.hid hT
       have HG := Lib.hid hi1
       have HGG := Lib.hid hg
       have hsb := hBB.lt
       have hBx := hBB.on (below_new0 wr (.cells #[.int .i64 a, .int .i64 l, .string t, .slice ip ii.len ic, .slice kp k.len kc] 44))
       have hbx : Below b wr (wr.alloc (.cells #[.int .i64 a, .int .i64 l, .string t, .slice ip ii.len ic, .slice kp k.len kc] 44)) := (below_new0 _ _).mono (by omega)
       have hka := Known.made wr 44 #[.int .i64 a, .int .i64 l, .string t, .slice ip ii.len ic, .slice kp k.len kc]
       have HKA := Lib.hid hka
       clear hka
       have HBX := Lib.hid hBx
       have HM : Hid (∀ x, (if a = 1 ∨ a = 2 ∨ a = 4 ∨ a = 9 then ii.plain ++ [10] else if a = 6 then t.data.toList ++ [10] else []) = x → ((l0 ++ A.ptxt) ++ x) ++ k.ptxt = l0 ++ (A.app (.cons a l t ii k .nil)).ptxt) := Lib.hid (fun x hx => by rw [Bls.ptxt_app]; simp only [Bls.ptxt, List.append_nil, hx, List.append_assoc])
       have hl : (A.app (.cons a l t ii k .nil)).len = i + 1 := by rw [Bls.len_app, HI.out]; rfl
       have HL := Lib.hid hl
       have hKA : blsS.sl (fun k => k < b) (wr.alloc (.cells #[.int .i64 a, .int .i64 l, .string t, .slice ip ii.len ic, .slice kp k.len kc] 44)) (.slice kp k.len kc) k := blsS.sl_on hk (Kept.alloc _)
       have hIA : insS.sl (fun k => k < b) (wr.alloc (.cells #[.int .i64 a, .int .i64 l, .string t, .slice ip ii.len ic, .slice kp k.len kc] 44)) (.slice ip ii.len ic) ii := insS.sl_on hisl (Kept.alloc _)
       obtain ⟨wA, hwA⟩ : ∃ wA, wA = wr.alloc (.cells #[.int .i64 a, .int .i64 l, .string t, .slice ip ii.len ic, .slice kp k.len kc] 44) := ⟨_, rfl⟩
       have hIH : ∀ (x : List UInt8) (W : World), ((l0 ++ A.ptxt) ++ x).length + k.bulk ≤ 10000000000000 → Buf b ((l0 ++ A.ptxt) ++ x) W → Below b wA W → Calls Tryz.prog 40 #[.pointer (some ⟨b, 0, none⟩), .slice kp k.len kc] W fun e w' => e = .returned (.tuple #[]) ∧ Buf b (((l0 ++ A.ptxt) ++ x) ++ k.ptxt) w' ∧ Below b W w' :=
        fun x W hx hBW hbW => ih k kp kc b _ W hks hks2 hx hBW (blsS.sl_on hKA (by rw [← hwA]; exact Kept.low hbW))
       have HIH := Lib.hid hIH
       have HIA := Lib.hid hIA
       have HWA := Lib.hid hwA
       rw [← hwA] at hbx
       clear hE hA hr hi1 hsz hT hg hBB hBx hl hKA hIH hIA hk hisl hwA
       by_cases q1 : a = 1 ∨ a = 2 ∨ a = 4 ∨ a = 9
       ·have HM2 := Lib.hid (HM.out (ii.plain ++ [10]) (by rw [if_pos q1]))
        have hPL := plain_any _ ii ip ic _ his2 (by omega) HIA.out
        have hST := fun W (hBW : Buf b (l0 ++ A.ptxt) W) => buf_string b _ (⟨ii.plain.toArray⟩ ++ ⟨#[10]⟩) W hBW (by rw [ByteArray.size_append]; show _ + (ii.plain.length + 1) ≤ _; omega)
        have ebd : ((⟨ii.plain.toArray⟩ : ByteArray) ++ ⟨#[10]⟩).data.toList = ii.plain ++ [10] := by simp
        rw [ebd] at hST
        obtain ⟨PT, hPT⟩ : ∃ PT : ByteArray, ⟨ii.plain.toArray⟩ = PT := ⟨_, rfl⟩
        rw [hPT] at hPL hST
        have hPTs : PT.size ≤ ii.bulk := by rw [← hPT]; exact hipl
        have hIH := HIH.out (ii.plain ++ [10])
        have HPL := Lib.hid hPL
        have HST := Lib.hid hST
        have HI2 := Lib.hid hIH
        have hsum : ((l0 ++ A.ptxt) ++ (ii.plain ++ [10])).length + k.bulk ≤ 10000000000000 := by
         rw [List.length_append, hA2, List.length_append, List.length_singleton]; omega
        have HSUM := Lib.hid hsum
        have hov : ¬ (9223372036854775807 < PT.size + (⟨#[10]⟩ : ByteArray).size) := by
         show ¬ (9223372036854775807 < PT.size + 1); omega
        clear hPL hST hIH hPT hsum ebd
        rcases q1 with rfl | rfl | rfl | rfl
        all_goals
         clear HIH
         go_wp2_with fail
         refine HPL.out.mono ?_
         rintro e w1 ⟨rfl, hb1⟩
         have hB1 := HBX.out.on hb1
         have HB1 := Lib.hid hB1
         clear hB1
         go_wp2_with fail
         refine (HST.out _ HB1.out).mono ?_
         rintro e w2 ⟨rfl, hB2, hr2⟩
         have HB2 := Lib.hid hB2
         clear hB2
         have hK2 : Known w2 wr.heap.size _ _ := hr2.2 _ _ (HKA.out.on hb1) (fun e => by injection e with e; omega) (fun c fz e => by injection e with e1 e2; exact absurd e2 (by decide))
         obtain ⟨y0, y1, y2, y3, y4⟩ := hK2.five
         have hly := hK2.lt
         clear hK2
         have hbq : Below b wA w2 := by
          rw [HWA.out]
          exact (hb1.mono (by rw [World.size_alloc]; omega)).trans hr2.1
         go_wp2_with fail
         refine (HI2.out _ HSUM.out HB2.out hbq).mono ?_
         rintro e w3 ⟨rfl, hB3, hr3⟩
         have HB3 := Lib.hid hB3
         clear hB3
         go_wp2_with fail
         have HG2 := HG.out
         have HG3 := HGG.out
         simp only [Bls.len] at HG2 HG3
         go_roundg (r.len + 1)
         case measure => omega
         case rel => exact ⟨A.app (.cons _ l t ii k .nil), r, by rw [Bls.app_assoc]; exact HAR.out, by rw [HL.out]; omega, by omega, by rw [HL.out]; go_num, by rw [← HM2.out]; exact HB3.out, hb.trans (hbx.trans (hbq.trans hr3)), by rw [HL.out]; exact HT.out⟩
       ·have e1 : (a == 1) = false := by simp; omega
        have e2 : (a == 2) = false := by simp; omega
        have e4 : (a == 4) = false := by simp; omega
        have e9 : (a == 9) = false := by simp; omega
        by_cases h6 : a = 6
        ·have HM2 := Lib.hid (HM.out (t.data.toList ++ [10]) (by rw [if_neg q1, if_pos h6]))
         have e6 : (a == 6) = true := by simpa using h6
         have hST := buf_string b _ (t ++ ⟨#[10]⟩) _ HBX.out (by rw [ByteArray.size_append]; show _ + (t.size + 1) ≤ _; omega)
         have ebd : (t ++ (⟨#[10]⟩ : ByteArray)).data.toList = t.data.toList ++ [10] := by simp
         rw [ebd] at hST
         have hIH := HIH.out (t.data.toList ++ [10])
         have hsum : ((l0 ++ A.ptxt) ++ (t.data.toList ++ [10])).length + k.bulk ≤ 10000000000000 := by
          have : t.data.toList.length = t.size := by simp
          rw [List.length_append, hA2, List.length_append, List.length_singleton]; omega
         have HSUM := Lib.hid hsum
         have HST := Lib.hid hST
         have HI2 := Lib.hid hIH
         have hov : ¬ (9223372036854775807 < t.size + (⟨#[10]⟩ : ByteArray).size) := by
          show ¬ (9223372036854775807 < t.size + 1); omega
         clear hST hIH ebd hsum q1 h6 HIH
         go_wp2_with fail
         refine HST.out.mono ?_
         rintro e w2 ⟨rfl, hB2, hr2⟩
         have HB2 := Lib.hid hB2
         clear hB2
         have hK2 : Known w2 wr.heap.size _ _ := hr2.2 _ _ (HKA.out) (fun e => by injection e with e; omega) (fun c fz e => by injection e with e1 e2; exact absurd e2 (by decide))
         obtain ⟨y0, y1, y2, y3, y4⟩ := hK2.five
         have hly := hK2.lt
         clear hK2
         have hbq : Below b wA w2 := by rw [HWA.out]; exact hr2.1
         go_wp2_with fail
         refine (HI2.out _ HSUM.out HB2.out hbq).mono ?_
         rintro e w3 ⟨rfl, hB3, hr3⟩
         have HB3 := Lib.hid hB3
         clear hB3
         go_wp2_with fail
         have HG2 := HG.out
         have HG3 := HGG.out
         simp only [Bls.len] at HG2 HG3
         go_roundg (r.len + 1)
         case measure => omega
         case rel => exact ⟨A.app (.cons _ l t ii k .nil), r, by rw [Bls.app_assoc]; exact HAR.out, by rw [HL.out]; omega, by omega, by rw [HL.out]; go_num, by rw [← HM2.out]; exact HB3.out, hb.trans (hbx.trans (hbq.trans hr3)), by rw [HL.out]; exact HT.out⟩
        ·have HM2 := Lib.hid (HM.out [] (by rw [if_neg q1, if_neg h6]))
         have e6 : (a == 6) = false := by simpa using h6
         have hIH := HIH.out []
         have hsum : ((l0 ++ A.ptxt) ++ []).length + k.bulk ≤ 10000000000000 := by
          rw [List.append_nil, hA2]; omega
         have hB2 : Buf b ((l0 ++ A.ptxt) ++ []) (wr.alloc (.cells #[.int .i64 a, .int .i64 l, .string t, .slice ip ii.len ic, .slice kp k.len kc] 44)) := by rw [List.append_nil]; exact HBX.out
         have HB2 := Lib.hid hB2
         have HSUM := Lib.hid hsum
         have HI2 := Lib.hid hIH
         clear hIH hsum hB2 q1 h6 HIH
         go_wp2_with fail
         refine (HI2.out _ HSUM.out HB2.out (by rw [HWA.out]; exact Below.refl _ _)).mono ?_
         rintro e w3 ⟨rfl, hB3, hr3⟩
         have HB3 := Lib.hid hB3
         clear hB3
         go_wp2_with fail
         have HG2 := HG.out
         have HG3 := HGG.out
         simp only [Bls.len] at HG2 HG3
         go_roundg (r.len + 1)
         case measure => omega
         case rel => exact ⟨A.app (.cons _ l t ii k .nil), r, by rw [Bls.app_assoc]; exact HAR.out, by rw [HL.out]; omega, by omega, by rw [HL.out]; go_num, by rw [← HM2.out]; exact HB3.out, hb.trans (hbx.trans (by rw [HWA.out]; exact hr3)), by rw [HL.out]; exact HT.out⟩
set_option maxRecDepth 10000 in
set_option maxHeartbeats 1000000 in
theorem bplain_any (q : Nat → Prop) (L : Bls) (p : Option Addr) (c : Nat) (w : World) (hM : L.size ≤ 1000000) (hK : L.bulk ≤ 10000000000000) (hv : blsS.sl q w (.slice p L.len c) L) :
  Calls Tryz.prog 21 #[.slice p L.len c] w fun e w' => e = .returned (.string ⟨L.ptxt.toArray⟩) ∧ Below w.heap.size w w' := by
 have hC := bplainB_any _ L p c w.heap.size [] _ (Nat.lt_succ_self _) hM (by simpa using hK) (buf_new w) (blsS.sl_on hv (fun k hk hl => ⟨hl, (Kept.alloc (q := q) _ k hk hl).2⟩))
 simp only [List.nil_append] at hC
 go_enter Tryz.func21, Tryz.ntmps21
 go_wp2_with fail
 refine hC.mono ?_
 rintro e w1 ⟨rfl, hB1, hb1⟩
 go_wp2_with fail
 refine (buf_text _ _ _ hB1).mono ?_
 rintro e w2 ⟨rfl, hB2, hr2⟩
 go_wp2_with fail
 go_ret
 exact ⟨rfl, ((below_new0 _ _).trans (hb1.mono (Nat.le_refl _))).trans hr2.1⟩
end Go.Proofs.YthieinfonomeeaaGreatDoor
