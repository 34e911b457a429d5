/-
  The claim's own texts, packed. Conditions: those typed in each theorem.
-/
import Derived.Test.YthieinfonomeeaaGreatDoorZAaq
import Derived.Test.YthieinfonomeeaaGreatDoorZAac
namespace Go.Proofs.YthieinfonomeeaaGreatDoor
open Go.RowKit Doc Tit Inl
set_option linter.unusedVariables false
attribute [local go_sem ↓] Go.wp_at_zero Go.wp_at_succ
theorem flush_nil (st : Stk) : flush st [] = st := by unfold flush; rw [if_pos rfl]
def fin4 (s : S) (x : Nat) : S :=
 let b := if 3 ≤ x then s.toggle 2 else s
 if x ≠ 3 then b.toggle 3 else b
def fin3 (s : S) (n : Nat) : S := fin4 ⟨s.stk, s.pend ++ List.replicate (n - min n 5) 39⟩ (min n 5)
theorem quotes_fin (s : S) (n : Nat) (h : 2 ≤ n) (h4 : n ≠ 4) : s.quotes n = fin3 s n := by
 unfold S.quotes fin3 fin4 left
 rw [if_neg h4]
structure RP (B g : Nat) (w : World) (s : S) : Prop where
 le : B ≤ g
 rs : RS B g w (flush s.stk s.pend).reverse (!s.pend.isEmpty)
 ok : Ok s.stk
 m : s.m ≤ 1000000000
theorem RP.below {B g : Nat} {w w' : World} {s : S} (h : RP B g w s) (hb : Below w.heap.size w w') : RP B g w' s := ⟨h.le, h.rs.below hb, h.ok, h.m⟩
theorem RP.lt {B g : Nat} {w : World} {s : S} (h : RP B g w s) : g < w.heap.size := h.rs.lt
theorem ok_cons {st : Stk} (h : Ok st) : ∃ k l r, st = (k, l) :: r ∧ r.length ≤ 2 := by
 rcases h with ⟨l, rfl⟩ | ⟨k, a, l, hk, rfl⟩ | ⟨k, k', a, b, l, hk, rfl⟩
 ·exact ⟨_, _, _, rfl, by simp⟩
 ·exact ⟨_, _, _, rfl, by simp⟩
 ·exact ⟨_, _, _, rfl, by simp⟩
theorem ok_zero {st : Stk} (h : Ok st) {k0 : Int} (hk0 : k0 ≠ 0) : ∀ h : 0 < st.reverse.length, st.reverse[0].1 ≠ k0 := by
 rcases h with ⟨l, rfl⟩ | ⟨k, a, l, hk, rfl⟩ | ⟨k, k', a, b, l, hk, rfl⟩
 all_goals
  intro h e
  exact hk0 e.symm
theorem ok_len {st : Stk} (h : Ok st) : 1 ≤ st.length ∧ st.length ≤ 3 := by
 obtain ⟨k, l, r, rfl, hr⟩ := ok_cons h
 simp; omega
theorem rletter_p (B g : Nat) (w : World) (s : S) (c : UInt8) (hR : RP B g w s) (hm : s.m + 1 ≤ 1000000000) :
  Calls Tryz.prog 113 #[.pointer (some ⟨g, 0, none⟩), .int .u8 (c.toNat : Int)] w fun e w' => e = .returned (.tuple #[]) ∧ RP B g w' (s.letter c) ∧ Step g w w' := by
 obtain ⟨st, p⟩ := s
 obtain ⟨hBg, hrs, hok, hmm⟩ := hR
 have hml : (S.letter ⟨st, p⟩ c).m ≤ 1000000000 := by
  simp only [S.letter, S.m, List.length_append, List.length_singleton] at hm ⊢; omega
 obtain ⟨k, l, r, rfl, hr⟩ := ok_cons hok
 have ht : tot ((k, l) :: r) ≤ 1000000000 := by simp only [S.m] at hmm; omega
 have hp : p.length ≤ 1000000000 := by simp only [S.m] at hmm; omega
 have hl : l.len ≤ 1000000000 := by simp only [tot] at ht; omega
 cases p with
 | nil =>
   have h1 : RS B g w (r.reverse ++ [(k, l)]) false := by simpa [flush] using hrs
   refine (rletter_new B g hBg w r.reverse k l c h1 (by simp; omega) hl).mono ?_
   rintro e w' ⟨rfl, h2, h3⟩
   exact ⟨rfl, ⟨hBg, by simpa [S.letter, flush, addTop] using h2, hok, hml⟩, h3⟩
 | cons a b =>
   have h1 : RS B g w (r.reverse ++ [(k, l.app (txt (a :: b)))]) true := by simpa [flush, addTop] using hrs
   refine (rletter_more B g hBg w r.reverse k l (a :: b) c h1 (by simp; omega) hl hp).mono ?_
   rintro e w' ⟨rfl, h2, h3⟩
   exact ⟨rfl, ⟨hBg, by simpa [S.letter, flush, addTop] using h2, hok, hml⟩, h3⟩
theorem radd_p (B g : Nat) (w : World) (s : S) (a : Int) (tx : ByteArray) (sp : Int) (nm an : ByteArray) (kp : Option Addr) (kn kc : Nat) (kids : Ins) (hR : RP B g w s) (hK : insS.sl (kg B g) w (.slice kp kn kc) kids) (hm : s.m + 1 ≤ 1000000000) :
  Calls Tryz.prog 110 #[.pointer (some ⟨g, 0, none⟩), .agg #[.int .i64 a, .string tx, .int .i64 sp, .string nm, .string an, .slice kp kn kc]] w fun e w' => e = .returned (.tuple #[]) ∧ RP B g w' (s.add (.cons a tx sp nm an kids .nil)) ∧ Step g w w' := by
 obtain ⟨st, p⟩ := s
 obtain ⟨hBg, hrs, hok, hmm⟩ := hR
 have hok2 : Ok (flush st p) := hok.flush p
 have hf := tot_flush st p
 have ht := tot_addTop (.cons a tx sp nm an kids .nil) (flush st p)
 have hm2 : (S.add ⟨st, p⟩ (.cons a tx sp nm an kids .nil)).m ≤ 1000000000 := by
  simp only [S.add, S.m, List.length_nil, Ins.len] at hm ht ⊢; omega
 obtain ⟨k, l, r, hst, hr⟩ := ok_cons hok2
 have hl : l.len ≤ 1000000000 := by
  have : l.len ≤ tot (flush st p) := by rw [hst]; simp [tot]
  simp only [S.m] at hmm; omega
 have h1 : RS B g w (r.reverse ++ [(k, l)]) (!p.isEmpty) := by simpa [hst] using hrs
 refine (radd_any B g hBg w r.reverse k l _ a tx sp nm an kp kn kc kids h1 hK (by simp; omega) hl).mono ?_
 rintro e w' ⟨rfl, h2, h3⟩
 refine ⟨rfl, ⟨hBg, ?_, (hok.flush p).addTop _, hm2⟩, h3⟩
 show RS B g w' (flush (addTop (.cons a tx sp nm an kids .nil) (flush st p)) []).reverse false
 simpa [flush_nil, hst, addTop] using h2
theorem rtoggle_p (B g : Nat) (w : World) (s : S) (k : Int) (hR : RP B g w s) (hk : k = 2 ∨ k = 3) :
  Calls Tryz.prog 139 #[.pointer (some ⟨g, 0, none⟩), .int .i64 k] w fun e w' => e = .returned (.tuple #[]) ∧ RP B g w' (s.toggle k) ∧ Step g w w' := by
 obtain ⟨st, p⟩ := s
 obtain ⟨hBg, hrs, hok, hmm⟩ := hR
 have hok2 : Ok (flush st p) := hok.flush p
 have hf := tot_flush st p
 obtain ⟨hl1, hl3⟩ := ok_len hok2
 refine (rtoggle_any B g hBg w (flush st p).reverse _ k hrs (by rw [List.length_reverse]; exact hl1) (ok_zero hok2 (by omega)) (by rw [List.length_reverse]; omega) (by rw [List.reverse_reverse]; simp only [S.m] at hmm; omega)).mono ?_
 rintro e w' ⟨rfl, h3, h2⟩
 refine ⟨rfl, ⟨hBg, ?_, hok2.toggle hk, Nat.le_trans (m_toggle _ _) hmm⟩, h3⟩
 rw [List.reverse_reverse] at h2
 show RS B g w' (flush (Inl.toggle k (flush st p)) []).reverse false
 rw [flush_nil]
 exact h2
set_option maxRecDepth 10000 in
set_option maxHeartbeats 4000000 in
theorem rquotes_any (B g : Nat) (w : World) (s : S) (n : Nat) (hR : RP B g w s) (hn : 2 ≤ n) (hnb : n ≤ 100000000) (hm : s.m + n ≤ 1000000000) :
  Calls Tryz.prog 114 #[.pointer (some ⟨g, 0, none⟩), .int .i64 n] w fun e w' => e = .returned (.tuple #[]) ∧ RP B g w' (s.quotes n) ∧ Step g w w' := by
 have hgl := hR.lt
 have HR := Lib.hid hR
 have HM := Lib.hid hm
 clear hR hm
 go_enter Tryz.func114, Tryz.ntmps114
 by_cases h4 : n = 4
 ·subst h4
  have HC := Lib.hid (rletter_p B g w s 39 HR.out (by have := HM.out; omega))
  go_wp2_with fail
  refine HC.out.mono ?_
  rintro e w1 ⟨rfl, hR1, hS1⟩
  obtain ⟨n0, hn0⟩ : ∃ n0 : Nat, n0 = 3 := ⟨_, rfl⟩
  obtain ⟨s0, hs0⟩ : ∃ s0, s0 = s.letter 39 := ⟨_, rfl⟩
  rw [← hs0] at hR1
  have hq : s.quotes 4 = fin3 s0 n0 := by rw [hs0, hn0]; simp [S.quotes, fin3, fin4, left, S.letter]
  have hsm : s0.m + n0 ≤ 1000000000 := by rw [hs0, hn0]; have := HM.out; simp only [S.letter, S.m, List.length_append, List.length_singleton] at this ⊢; omega
  have h2 : 2 ≤ n0 ∧ n0 ≠ 4 ∧ n0 ≤ 100000000 := by omega
  obtain ⟨hn2, hn4, hnb0⟩ := h2
  have HS1 := Lib.hid hS1
  have HQ := Lib.hid hq
  have HSM := Lib.hid hsm
  have HR1 := Lib.hid hR1
  clear HC HR HM hS1 hq hsm hR1 hs0
  go_wp2_with fail
  rw [show (3 : Int) = (n0 : Int) by omega]
  clear hn0
  go_loopg [1] (n0 + 1) (fun gg s1 wr => ∃ x : Nat, x ≤ n0 ∧ x < gg ∧ s1 = .int .i64 x ∧ (n0 ≤ 5 → x = n0) ∧ (5 ≤ n0 → 5 ≤ x) ∧ RP B g wr ⟨s0.stk, s0.pend ++ List.replicate (n0 - x) 39⟩ ∧ Step g w1 wr)
  case atStart => exact ⟨n0, by omega, by omega, rfl, fun _ => rfl, fun h => h, by simpa using HR1.out, Step.refl _ _⟩
  case round =>
   obtain ⟨x, hx, hxg, rfl, h5, h6, hR2, hS2⟩ := hrel
   have HS2 := Lib.hid hS2
   by_cases hx5 : 5 < x
   ·have g5 : decide (5 < x) = true := decide_eq_true hx5
    have g5' : decide ((5 : Int) < (x : Int)) = true := decide_eq_true (by omega)
    have hC := rletter_p B g wr _ 39 hR2 (by have := HSM.out; simp only [S.m, List.length_append, List.length_replicate] at this ⊢; omega)
    have e1 : S.letter ⟨s0.stk, s0.pend ++ List.replicate (n0 - x) 39⟩ 39 = ⟨s0.stk, s0.pend ++ List.replicate (n0 - (x - 1)) 39⟩ := by
     rw [show n0 - (x - 1) = n0 - x + 1 by omega, List.replicate_succ']; simp [S.letter]
    rw [e1] at hC
    have HC := Lib.hid hC
    clear hC hR2 hS2 e1
    go_wp2_with fail
    refine HC.out.mono ?_
    rintro e w3 ⟨rfl, hR3, hS3⟩
    have HR3 := Lib.hid hR3
    have HS3 := Lib.hid (HS2.out.trans hS3)
    clear hR3 hS3
    go_wp2_with fail
    go_roundg x
    case measure => omega
    case rel => exact ⟨x - 1, by omega, by omega, by rw [Int.ofNat_sub (by omega)]; go_num, fun h => by omega, fun h => by omega, HR3.out, HS3.out⟩
   ·have g5 : decide (5 < x) = false := decide_eq_false hx5
    have g5' : decide ((5 : Int) < (x : Int)) = false := decide_eq_false (by omega)
    have hxe : x = 2 ∨ x = 3 ∨ x = 5 := by omega
    obtain ⟨s2, hs2⟩ : ∃ s2 : S, s2 = ⟨s0.stk, s0.pend ++ List.replicate (n0 - x) 39⟩ := ⟨_, rfl⟩
    have hfin : fin3 s0 n0 = fin4 s2 x := by
     have : x = min n0 5 := by omega
     rw [hs2, this]; rfl
    rw [← hs2] at hR2
    have HF := Lib.hid (HQ.out.trans hfin)
    have HR2 := Lib.hid hR2
    clear hfin hR2 hS2 hs2 h5 h6 hx hxg hx5 HR1 HSM HQ
    rcases hxe with rfl | rfl | rfl
    ·have HC := Lib.hid (rtoggle_p B g wr s2 3 HR2.out (.inr rfl))
     go_wp2_with fail
     refine HC.out.mono ?_
     rintro e w3 ⟨rfl, hR3, hS3⟩
     have HR3 := Lib.hid hR3
     have HS3 := Lib.hid hS3
     clear hR3 hS3
     go_wp2_with fail
     go_end0
     exact ⟨rfl, by rw [HF.out]; exact HR3.out, (HS1.out.trans HS2.out).trans HS3.out⟩
    ·have HC := Lib.hid (rtoggle_p B g wr s2 2 HR2.out (.inl rfl))
     go_wp2_with fail
     refine HC.out.mono ?_
     rintro e w3 ⟨rfl, hR3, hS3⟩
     have HR3 := Lib.hid hR3
     have HS3 := Lib.hid hS3
     clear hR3 hS3
     go_wp2_with fail
     go_end0
     exact ⟨rfl, by rw [HF.out]; exact HR3.out, (HS1.out.trans HS2.out).trans HS3.out⟩
    ·have HC := Lib.hid (rtoggle_p B g wr s2 2 HR2.out (.inl rfl))
     go_wp2_with fail
     refine HC.out.mono ?_
     rintro e w3 ⟨rfl, hR3, hS3⟩
     have HR3 := Lib.hid hR3
     have HS3 := Lib.hid hS3
     have HC3 := Lib.hid (rtoggle_p B g w3 _ 3 HR3.out (.inr rfl))
     clear hR3 hS3
     go_wp2_with fail
     refine HC3.out.mono ?_
     rintro e w4 ⟨rfl, hR4, hS4⟩
     have HR4 := Lib.hid hR4
     have HS4 := Lib.hid hS4
     clear hR4 hS4
     go_wp2_with fail
     go_end0
     exact ⟨rfl, by rw [HF.out]; exact HR4.out, ((HS1.out.trans HS2.out).trans HS3.out).trans HS4.out⟩
 ·have g4 : ((n : Int) == 4) = false := by simp; omega
  have g4' : (n == 4) = false := by simp; omega
  obtain ⟨n0, hn0⟩ : ∃ n0 : Nat, n0 = n := ⟨_, rfl⟩
  obtain ⟨s0, hs0⟩ : ∃ s0, s0 = s := ⟨_, rfl⟩
  obtain ⟨w1, hw1⟩ : ∃ w1, w1 = w := ⟨_, rfl⟩
  have hR1 : RP B g w1 s0 := by rw [hs0, hw1]; exact HR.out
  have hq : s.quotes n = fin3 s0 n0 := by rw [hs0, hn0]; exact quotes_fin s n hn h4
  have hsm : s0.m + n0 ≤ 1000000000 := by rw [hs0, hn0]; exact HM.out
  have h2 : 2 ≤ n0 ∧ n0 ≠ 4 ∧ n0 ≤ 100000000 := by omega
  obtain ⟨hn2, hn4, hnb0⟩ := h2
  have HS1 : Hid (Step g w w1) := Lib.hid (by rw [hw1]; exact Step.refl _ _)
  have HQ := Lib.hid hq
  have HSM := Lib.hid hsm
  have HR1 := Lib.hid hR1
  clear HR HM hq hsm hR1 hs0 h4
  go_wp2_with fail
  rw [← hw1, ← hn0]
  clear hn0 hw1 g4 g4'
  go_loopg [1] (n0 + 1) (fun gg s1 wr => ∃ x : Nat, x ≤ n0 ∧ x < gg ∧ s1 = .int .i64 x ∧ (n0 ≤ 5 → x = n0) ∧ (5 ≤ n0 → 5 ≤ x) ∧ RP B g wr ⟨s0.stk, s0.pend ++ List.replicate (n0 - x) 39⟩ ∧ Step g w1 wr)
  case atStart => exact ⟨n0, by omega, by omega, rfl, fun _ => rfl, fun h => h, by simpa using HR1.out, Step.refl _ _⟩
  case round =>
   obtain ⟨x, hx, hxg, rfl, h5, h6, hR2, hS2⟩ := hrel
   have HS2 := Lib.hid hS2
   by_cases hx5 : 5 < x
   ·have g5 : decide (5 < x) = true := decide_eq_true hx5
    have g5' : decide ((5 : Int) < (x : Int)) = true := decide_eq_true (by omega)
    have hC := rletter_p B g wr _ 39 hR2 (by have := HSM.out; simp only [S.m, List.length_append, List.length_replicate] at this ⊢; omega)
    have e1 : S.letter ⟨s0.stk, s0.pend ++ List.replicate (n0 - x) 39⟩ 39 = ⟨s0.stk, s0.pend ++ List.replicate (n0 - (x - 1)) 39⟩ := by
     rw [show n0 - (x - 1) = n0 - x + 1 by omega, List.replicate_succ']; simp [S.letter]
    rw [e1] at hC
    have HC := Lib.hid hC
    clear hC hR2 hS2 e1
    go_wp2_with fail
    refine HC.out.mono ?_
    rintro e w3 ⟨rfl, hR3, hS3⟩
    have HR3 := Lib.hid hR3
    have HS3 := Lib.hid (HS2.out.trans hS3)
    clear hR3 hS3
    go_wp2_with fail
    go_roundg x
    case measure => omega
    case rel => exact ⟨x - 1, by omega, by omega, by rw [Int.ofNat_sub (by omega)]; go_num, fun h => by omega, fun h => by omega, HR3.out, HS3.out⟩
   ·have g5 : decide (5 < x) = false := decide_eq_false hx5
    have g5' : decide ((5 : Int) < (x : Int)) = false := decide_eq_false (by omega)
    have hxe : x = 2 ∨ x = 3 ∨ x = 5 := by omega
    obtain ⟨s2, hs2⟩ : ∃ s2 : S, s2 = ⟨s0.stk, s0.pend ++ List.replicate (n0 - x) 39⟩ := ⟨_, rfl⟩
    have hfin : fin3 s0 n0 = fin4 s2 x := by
     have : x = min n0 5 := by omega
     rw [hs2, this]; rfl
    rw [← hs2] at hR2
    have HF := Lib.hid (HQ.out.trans hfin)
    have HR2 := Lib.hid hR2
    clear hfin hR2 hS2 hs2 h5 h6 hx hxg hx5 HR1 HSM HQ
    rcases hxe with rfl | rfl | rfl
    ·have HC := Lib.hid (rtoggle_p B g wr s2 3 HR2.out (.inr rfl))
     go_wp2_with fail
     refine HC.out.mono ?_
     rintro e w3 ⟨rfl, hR3, hS3⟩
     have HR3 := Lib.hid hR3
     have HS3 := Lib.hid hS3
     clear hR3 hS3
     go_wp2_with fail
     go_end0
     exact ⟨rfl, by rw [HF.out]; exact HR3.out, (HS1.out.trans HS2.out).trans HS3.out⟩
    ·have HC := Lib.hid (rtoggle_p B g wr s2 2 HR2.out (.inl rfl))
     go_wp2_with fail
     refine HC.out.mono ?_
     rintro e w3 ⟨rfl, hR3, hS3⟩
     have HR3 := Lib.hid hR3
     have HS3 := Lib.hid hS3
     clear hR3 hS3
     go_wp2_with fail
     go_end0
     exact ⟨rfl, by rw [HF.out]; exact HR3.out, (HS1.out.trans HS2.out).trans HS3.out⟩
    ·have HC := Lib.hid (rtoggle_p B g wr s2 2 HR2.out (.inl rfl))
     go_wp2_with fail
     refine HC.out.mono ?_
     rintro e w3 ⟨rfl, hR3, hS3⟩
     have HR3 := Lib.hid hR3
     have HS3 := Lib.hid hS3
     have HC3 := Lib.hid (rtoggle_p B g w3 _ 3 HR3.out (.inr rfl))
     clear hR3 hS3
     go_wp2_with fail
     refine HC3.out.mono ?_
     rintro e w4 ⟨rfl, hR4, hS4⟩
     have HR4 := Lib.hid hR4
     have HS4 := Lib.hid hS4
     clear hR4 hS4
     go_wp2_with fail
     go_end0
     exact ⟨rfl, by rw [HF.out]; exact HR4.out, ((HS1.out.trans HS2.out).trans HS3.out).trans HS4.out⟩
end Go.Proofs.YthieinfonomeeaaGreatDoor
namespace Go.Proofs.YthieinfonomeeaaGreatDoor
open Go.RowKit Doc Tit Inl
set_option linter.unusedVariables false
attribute [local go_sem ↓] Go.wp_at_zero Go.wp_at_succ
def RParse (N : Nat) : Prop := ∀ (t : ByteArray) (W : World), t.size < N → t.size ≤ 100000000 → Calls Tryz.prog 77 #[.string t] W fun e w' =>
 ∃ p c, e = .returned (.slice p (read t.data.toList).len c) ∧ insS.sl (fun k => W.heap.size ≤ k) w' (.slice p (read t.data.toList).len c) (read t.data.toList) ∧ Below W.heap.size W w'
def LinkR (i : Nat) (v : Option (Option Ins × Nat)) (w w' : World) (e : Ending) : Prop :=
 ∃ (a : Int) (tx : ByteArray) (sp : Int) (nm an : ByteArray) (kp : Option Addr) (kn kc : Nat) (kids : Ins) (b : Bool) (n : Int),
  e = .returned (.tuple #[.agg #[.int .i64 a, .string tx, .int .i64 sp, .string nm, .string an, .slice kp kn kc], .bool b, .int .i64 n]) ∧ insS.sl (fun k => w.heap.size ≤ k) w' (.slice kp kn kc) kids ∧
  (match v with
   | none => b = false ∧ n = 0
   | some (none, m) => b = false ∧ n = ((i + m : Nat) : Int)
   | some (some x, m) => b = true ∧ n = ((i + m : Nat) : Int) ∧ x = .cons a tx sp nm an kids .nil)
theorem idx_none {l sub : List UInt8} {k : Nat} (h : Lib.index (l.drop k) sub = -1) : idx l sub k = -1 := by unfold idx; rw [if_pos h]
theorem idx_some {l sub : List UInt8} {k j : Nat} (h : Lib.index (l.drop k) sub = (j : Int)) : idx l sub k = ((k + j : Nat) : Int) := by unfold idx; rw [if_neg (by omega), h]; omega
theorem has_mem (c : UInt8) : ∀ l : List UInt8, (c ∈ l ↔ (bef c l).length ≠ l.length)
 | [] => by simp [bef]
 | a :: r => by
   have ih := has_mem c r
   have hle := bef_le c r
   unfold bef at ih hle ⊢
   rw [List.takeWhile_cons]
   by_cases e : a = c
   ·subst e; simp
   ·have e2 : ¬ c = a := fun h => e h.symm
    simp [e, e2]
    rw [ih]; simp
theorem dw_nil {p : UInt8 → Bool} : ∀ l : List UInt8, l.dropWhile p = [] ↔ ∀ x ∈ l, p x = true
 | [] => by simp
 | a :: r => by
   rw [List.dropWhile_cons]
   cases h : p a with
   | true => rw [if_pos rfl, dw_nil r]; simp [h]
   | false => simp [h]
theorem tw_in {p : UInt8 → Bool} : ∀ {l : List UInt8} {x : UInt8}, x ∈ l.takeWhile p → p x = true
 | a :: r, x, h => by
   rw [List.takeWhile_cons] at h
   cases hp : p a with
   | true =>
     rw [hp, if_pos rfl] at h
     rcases List.mem_cons.1 h with h | h
     ·rw [h]; exact hp
     ·exact tw_in h
   | false => rw [hp] at h; simp at h
theorem trim_empty (l : List UInt8) : (trimW bl3 l = []) ↔ l.any (fun x => !(bl3 x)) = false := by
 unfold trimW
 rw [List.reverse_eq_nil_iff]
 constructor
 ·intro h
  have h1 : ∀ x ∈ (l.dropWhile bl3).reverse, bl3 x = true := by
   intro x hx
   by_cases e : bl3 x = true
   ·exact e
   ·have := ((dw_nil _).1 h) x hx
    exact absurd this e
  rw [List.any_eq_false]
  intro x hx
  have h2 : x ∈ l.takeWhile bl3 ∨ x ∈ l.dropWhile bl3 := by
   rw [← List.mem_append, List.takeWhile_append_dropWhile]; exact hx
  rcases h2 with h2 | h2
  ·simp [tw_in h2]
  ·simp [h1 x (List.mem_reverse.2 h2)]
 ·intro h
  have h1 : l.dropWhile bl3 = [] := (dw_nil _).2 fun x hx => by
   rw [List.any_eq_false] at h
   simpa using h x hx
  rw [h1]; rfl
theorem link_none (i : Nat) (w w' : World) : LinkR i none w w' (.returned (.tuple #[.agg #[.int .i64 0, .string ⟨#[]⟩, .int .i64 0, .string ⟨#[]⟩, .string ⟨#[]⟩, .slice none 0 0], .bool false, .int .i64 0])) :=
 ⟨_, _, _, _, _, _, _, _, .nil, _, _, rfl, ins_none, rfl, rfl⟩
set_option maxRecDepth 20000 in
set_option maxHeartbeats 8000000 in
theorem rlink_any (N : Nat) (ih : RParse N) (s : ByteArray) (i : Nat) (w : World) (hs : s.size ≤ 100000000) (hi : i < s.size) (hN : s.size ≤ N) :
  Calls Tryz.prog 109 #[.string s, .int .i64 i] w fun e w' => LinkR i (linkE read (s.data.toList.drop i)) w w' e ∧ Below w.heap.size w w' := by
 have hz : s.data.toList.length = s.size := by simp
 obtain ⟨l, hl⟩ : ∃ l, l = s.data.toList.drop i := ⟨_, rfl⟩
 have hll : l.length = s.size - i := by rw [hl, List.length_drop, hz]
 have hA := fun W => at_any s ⟨#[91, 91]⟩ i W (by omega) (by decide) (by omega)
 have e0 : (⟨#[91, 91]⟩ : ByteArray).data.toList = [91, 91] := rfl
 rw [e0, ← hl] at hA
 rw [← hl]
 obtain ⟨b1, hb1⟩ : ∃ b, b = Lib.hasPrefix l [91, 91] := ⟨_, rfl⟩
 rw [← hb1] at hA
 have HA := Lib.hid hA
 have HB1 := Lib.hid hb1
 have HL := Lib.hid hl
 have IH := Lib.hid ih
 clear hA hb1 hl e0 ih
 go_enter Tryz.func109, Tryz.ntmps109
 go_wp2_with fail
 refine (HA.out _).mono ?_
 rintro e w1 ⟨rfl, rfl⟩
 cases b1 with
 | false =>
   have HE : Hid (linkE read l = none) := Lib.hid (by unfold linkE; rw [if_neg (by rw [← HB1.out]; simp)])
   go_wp2_with fail
   exact bodyPost_ret (v := .tuple #[.agg #[.int .i64 0, .string ⟨#[]⟩, .int .i64 0, .string ⟨#[]⟩, .string ⟨#[]⟩, .slice none 0 0], .bool false, .int .i64 0]) (by simp [results, Tryz.results109, go_sem]) rfl ⟨by rw [HE.out]; exact link_none _ _ _, below_new0 _ _⟩
 | true =>
   have hp2 := hp_le HB1.out.symm
   simp only [List.length_cons, List.length_nil] at hp2
   obtain ⟨r, hr⟩ : ∃ r, r = l.drop 2 := ⟨_, rfl⟩
   have hrs : s.data.toList.drop (i + 2) = r := by rw [hr, HL.out, List.drop_drop]
   have hrl : r.length = s.size - i - 2 := by rw [hr, List.length_drop, hll]
   have hI := fun W => index_any s ⟨#[93, 93]⟩ (i + 2) W (by omega) (by decide) (by decide) (by omega)
   have e0 : (⟨#[93, 93]⟩ : ByteArray).data.toList = [93, 93] := rfl
   rw [show ((i + 2 : Nat) : Int) = (i : Int) + 2 by omega, e0] at hI
   have hlk : linkE read l = if Lib.index r [93, 93] = -1 then none else
     if Lib.index (r.take (Lib.index r [93, 93]).toNat) [91, 91] ≠ -1 ∨ 10 ∈ r.take (Lib.index r [93, 93]).toNat then none else (linkC read (r.take (Lib.index r [93, 93]).toNat)).map fun x => (x, (r.take (Lib.index r [93, 93]).toNat).length + 4) := by
    unfold linkE; rw [if_pos HB1.out.symm, hr]
   by_cases hx : Lib.index r [93, 93] = -1
   ·rw [idx_none (by rw [hrs]; exact hx)] at hI
    have HE : Hid (linkE read l = none) := Lib.hid (by rw [hlk, if_pos hx])
    have HI := Lib.hid hI
    clear hI hlk hx hr hrs e0 HL HB1
    go_wp2_with fail
    refine (HI.out _).mono ?_
    rintro e w1 ⟨rfl, rfl⟩
    go_wp2_with fail
    exact bodyPost_ret (v := .tuple #[.agg #[.int .i64 0, .string ⟨#[]⟩, .int .i64 0, .string ⟨#[]⟩, .string ⟨#[]⟩, .slice none 0 0], .bool false, .int .i64 0]) (by simp [results, Tryz.results109, go_sem]) rfl ⟨by rw [HE.out]; exact link_none _ _ _, below_new0 _ _⟩
   ·obtain ⟨k, hk, hkr⟩ := index_nat hx
    simp only [List.length_cons, List.length_nil] at hkr
    rw [idx_some (by rw [hrs]; exact hk)] at hI
    rw [if_neg hx, hk, Int.toNat_natCast] at hlk
    obtain ⟨E, hE⟩ : ∃ E, E = i + 2 + k := ⟨_, rfl⟩
    rw [← hE] at hI
    have hEs : E + 2 ≤ s.size := by omega
    obtain ⟨c, hc⟩ : ∃ c, c = r.take k := ⟨_, rfl⟩
    have hcl : c.length = k := by rw [hc, List.length_take]; omega
    rw [← hc, hcl] at hlk
    obtain ⟨X, hX⟩ : ∃ X, X = s.extract (i + 2) E := ⟨_, rfl⟩
    have hXc : X.data.toList = c := by rw [hX, Lib.extract_data, hrs, hc, hE, show i + 2 + k - (i + 2) = k by omega]
    have hXz : X.size = k := by rw [← hcl, ← hXc]; simp
    have h1 := fun W => index_any X ⟨#[91, 91]⟩ 0 W (by omega) (by decide) (by decide) (by omega)
    have h2 := fun W => index_any X ⟨#[10]⟩ 0 W (by omega) (by decide) (by decide) (by omega)
    have e1 : (⟨#[91, 91]⟩ : ByteArray).data.toList = [91, 91] := rfl
    have e2 : (⟨#[10]⟩ : ByteArray).data.toList = [10] := rfl
    rw [hXc, e1] at h1
    rw [hXc, e2] at h2
    have e3 : c.drop 0 = c := rfl
    by_cases hy : Lib.index c [91, 91] = -1
    ·rw [idx_none (by rw [e3]; exact hy)] at h1
     have hbl := bef_le 10 c
     have e4 : idx c [10] 0 = if (bef 10 c).length = c.length then -1 else ((bef 10 c).length : Int) := by
      unfold idx bef
      rw [e3, index_byte]
      split
      ·rfl
      ·rw [if_neg (by omega)]; simp
     have e5 := has_mem 10 c
     generalize (bef 10 c).length = m at hbl e4 e5
     rw [e4] at h2
     by_cases h10 : 10 ∈ c
     ·rw [if_neg (e5.1 h10)] at h2
      have HE : Hid (linkE read l = none) := Lib.hid (by rw [hlk, if_pos (.inr h10)])
      have HI := Lib.hid hI
      have H1 := Lib.hid h1
      have H2 := Lib.hid h2
      have HX := Lib.hid hX
      have g1 : decide ((E : Int) < 0) = false := decide_eq_false (by omega)
      have g2 : (i : Int) + 2 ≤ (E : Int) := by omega
      have g3 : (E : Int) ≤ (s.size : Int) := by omega
      clear hI hlk hx hr hrs e0 HL HB1 h1 h2 hX hXc hc hy hE e3 e4 e5 h10
      go_wp2_with fail
      refine (HI.out _).mono ?_
      rintro e w1 ⟨rfl, rfl⟩
      go_wp2_with fail
      rw [← HX.out]
      refine (H1.out _).mono ?_
      rintro e w1 ⟨rfl, rfl⟩
      go_wp2_with fail
      rw [← HX.out]
      refine (H2.out _).mono ?_
      rintro e w1 ⟨rfl, rfl⟩
      go_wp2_with fail
      exact bodyPost_ret (v := .tuple #[.agg #[.int .i64 0, .string ⟨#[]⟩, .int .i64 0, .string ⟨#[]⟩, .string ⟨#[]⟩, .slice none 0 0], .bool false, .int .i64 0]) (by simp [results, Tryz.results109, go_sem]) rfl ⟨by rw [HE.out]; exact link_none _ _ _, below_new0 _ _⟩
     ·rw [if_pos (Classical.byContradiction fun h => h10 (e5.2 h))] at h2
      have HI := Lib.hid hI
      have H1 := Lib.hid h1
      have H2 := Lib.hid h2
      have HX := Lib.hid hX
      have g1 : decide ((E : Int) < 0) = false := decide_eq_false (by omega)
      have g2 : (i : Int) + 2 ≤ (E : Int) := by omega
      have g3 : (E : Int) ≤ (s.size : Int) := by omega
      have hlk2 : linkE read l = (linkC read c).map fun x => (x, k + 4) := by rw [hlk, if_neg (by simp [hy, h10])]
      have HLK := Lib.hid hlk2
      have HE := Lib.hid hE
      have HXC := Lib.hid hXc
      clear hI hlk hlk2 hx hr hrs e0 HL HB1 h1 h2 hX hXc hc hy hE e3 e4 e5 h10
      go_wp2_with fail
      refine (HI.out _).mono ?_
      rintro e w1 ⟨rfl, rfl⟩
      go_wp2_with fail
      rw [← HX.out]
      refine (H1.out _).mono ?_
      rintro e w1 ⟨rfl, rfl⟩
      go_wp2_with fail
      rw [← HX.out]
      refine (H2.out _).mono ?_
      rintro e w1 ⟨rfl, rfl⟩
      have hXs : X.size + i + 4 ≤ s.size := by omega
      have hTd : (⟨(bef 124 c).toArray⟩ : ByteArray).data.toList = bef 124 c := rfl
      have hB := fun W => before_any X 124 W (by omega)
      rw [HXC.out] at hB
      obtain ⟨T, hT⟩ : ∃ T : ByteArray, T = ⟨(bef 124 c).toArray⟩ := ⟨_, rfl⟩
      rw [← hT] at hB hTd
      have hTz : T.size ≤ X.size := by
       have h1 : T.data.toList.length = T.size := by simp
       have h2 := bef_le 124 c
       rw [← hTd] at h2; omega
      have HXZ := Lib.hid hXz
      clear hXz hcl
      obtain ⟨L1, hL1⟩ : ∃ L1 : ByteArray, L1 = ⟨(if (bef 124 c).head? = some 58 then (bef 124 c).tail else bef 124 c).toArray⟩ := ⟨_, rfl⟩
      have hL1d : L1.data.toList = if (bef 124 c).head? = some 58 then (bef 124 c).tail else bef 124 c := by rw [hL1]
      obtain ⟨Lb, hLb⟩ : ∃ Lb : ByteArray, Lb = ⟨(label c).toArray⟩ := ⟨_, rfl⟩
      have hLbd : Lb.data.toList = label c := by rw [hLb]
      obtain ⟨b9, hb9⟩ : ∃ b9, b9 = decide ((bef 124 c).head? = some 58) := ⟨_, rfl⟩
      obtain ⟨b11, hb11⟩ : ∃ b11, b11 = decide (T.size < X.size) := ⟨_, rfl⟩
      have h58 := fun h : 0 < T.size => byte_at T 0 h
      have hx1 : T.data.toList ≠ [] → T.extract 1 T.size = ⟨(bef 124 c).tail.toArray⟩ := fun _ => bytes_ext (by rw [Lib.extract_to_end, hTd, List.drop_one])
      have hhas : has 124 c = decide (T.size < X.size) := by
       have h1 : T.data.toList.length = T.size := by simp
       have h2 : X.data.toList.length = X.size := by simp
       unfold has
       rw [← hTd, h1, ← HXC.out, h2]
      have hx2 : T.size < X.size → X.extract (T.size + 1) X.size = Lb := fun h => bytes_ext (by
       have h1 : T.data.toList.length = T.size := by simp
       rw [Lib.extract_to_end, hLbd, HXC.out]
       unfold label
       rw [hhas, decide_eq_true h, if_pos rfl]
       unfold aftr
       rw [← hTd, h1])
      have hx3 : ¬ T.size < X.size → L1 = Lb := fun h => bytes_ext (by
       rw [hL1d, hLbd]
       unfold label
       rw [hhas, decide_eq_false h]
       rfl)
      have HTD := Lib.hid hTd
      have HB := Lib.hid hB
      have HL1 := Lib.hid hL1
      have HL1D := Lib.hid hL1d
      have HLBD := Lib.hid hLbd
      have HB9 := Lib.hid hb9
      have HB11 := Lib.hid hb11
      have H58 := Lib.hid h58
      have HX1 := Lib.hid hx1
      have HX2 := Lib.hid hx2
      have HX3 := Lib.hid hx3
      have HTT := Lib.hid hT
      clear hTd hB hT hL1 hL1d hLb hLbd hb9 hb11 h58 hx1 hx2 hx3 hhas
      go_wp2_with fail
      obtain ⟨W0, hW0⟩ : ∃ W0, W0 = w.alloc (.cells #[.int .i64 0, .string ⟨#[]⟩, .int .i64 0, .string ⟨#[]⟩, .string ⟨#[]⟩, .slice none 0 0] 56) := ⟨_, rfl⟩
      have hK0 := Known.made w 56 #[.int .i64 0, .string ⟨#[]⟩, .int .i64 0, .string ⟨#[]⟩, .string ⟨#[]⟩, .slice none 0 0]
      have hb0 := below_new0 w (.cells #[.int .i64 0, .string ⟨#[]⟩, .int .i64 0, .string ⟨#[]⟩, .string ⟨#[]⟩, .slice none 0 0] 56)
      rw [← hW0] at hK0 hb0 ⊢
      have HK0 := Lib.hid hK0
      have HB0 := Lib.hid hb0
      have hW0z : W0.heap.size = w.heap.size + 1 := by rw [hW0, World.size_alloc]
      clear hW0 hK0 hb0
      rw [← HX.out]
      refine (HB.out _).mono ?_
      rintro e w1 ⟨rfl, rfl⟩
      go_upto_region 9 with fail
      go_cut [62] from 55 to 62 (fun s62 wc => s62 = .bool b9 ∧ W0 = wc)
      case first =>
       by_cases h0 : 0 < T.size
       ·have q1 : decide (0 < T.size) = true := decide_eq_true h0
        obtain ⟨h3, h4⟩ := H58.out h0
        have h5 : T[0] = 58 ↔ T[0].toNat = 58 := u8_eq (by decide)
        have h6 : ((T[0].toNat : Int) == 58) = b9 := by
         rw [HB9.out, ← HTD.out, Bool.eq_iff_iff, List.head?_eq_getElem?, List.getElem?_eq_getElem h3, ← h4]
         simp only [beq_iff_eq, decide_eq_true_eq, Option.some.injEq, h5]
         omega
        have H6 := Lib.hid h6
        clear h4 h5 h6
        go_wp2_with fail
        go_meet
        case rel => exact ⟨by rw [H6.out], rfl⟩
       ·have q1 : decide (0 < T.size) = false := decide_eq_false h0
        have h6 : b9 = false := by
         have h1 : T.data.toList.length = T.size := by simp
         have h2 : T.data.toList = [] := List.length_eq_zero_iff.1 (by omega)
         rw [HB9.out, ← HTD.out, h2]; rfl
        subst h6
        clear h0
        go_wp2_with fail
        go_meet
        case rel => exact ⟨rfl, rfl⟩
      case rest =>
       obtain ⟨rfl, rfl⟩ := hcut
       go_upto_if 62 with fail
       go_cut [10] from 63 to 64 (fun s10 wc => s10 = .string L1 ∧ W0 = wc)
       case first =>
        cases b9 with
        | true =>
          have h1 : T.extract 1 T.size = L1 := by
           have h9 : (bef 124 c).head? = some 58 := by simpa using HB9.out.symm
           rw [HX1.out (by rw [HTD.out]; intro h; rw [h] at h9; cases h9), HL1.out, if_pos h9]
          have h2 : (1 : Int) ≤ (T.size : Int) := by
           have h9 : (bef 124 c).head? = some 58 := by simpa using HB9.out.symm
           have h1 : T.data.toList.length = T.size := by simp
           rw [← HTD.out] at h9
           cases hh : T.data.toList with
           | nil => rw [hh] at h9; cases h9
           | cons a b => rw [hh] at h1; simp at h1; omega
          have H1 := Lib.hid h1
          clear h1
          go_wp2_with fail
          go_meet
          case rel => exact ⟨by rw [H1.out], by trivial⟩
        | false =>
          have h1 : T = L1 := by
           have h9 : ¬ (bef 124 c).head? = some 58 := by simpa using HB9.out.symm
           rw [HL1.out, if_neg h9, HTT.out]
          have H1 := Lib.hid h1
          clear h1
          go_wp2_with fail
          go_meet
          case rel => exact ⟨by rw [← H1.out], by trivial⟩
       case rest =>
        obtain ⟨rfl, rfl⟩ := hcut
        clear HX1 H58 HL1 HL1D HB9 HI
        go_upto_if 69 with fail
        go_cut [10] from 70 to 74 (fun s10 wc => s10 = .string Lb ∧ W0 = wc)
        case first =>
         by_cases hlt : T.size < X.size
         ·have q1 : decide (T.size < X.size) = true := decide_eq_true hlt
          have h1 := HX2.out hlt
          have h2 : (T.size : Int) + 1 ≤ (X.size : Int) := by omega
          have H1 := Lib.hid h1
          clear h1
          go_wp2_with fail
          go_meet
          case rel => exact ⟨by rw [H1.out], rfl⟩
         ·have q1 : decide (T.size < X.size) = false := decide_eq_false hlt
          have h1 := HX3.out hlt
          have H1 := Lib.hid h1
          clear h1
          go_wp2_with fail
          go_meet
          case rel => exact ⟨by rw [H1.out], rfl⟩
        case rest =>
         obtain ⟨rfl, rfl⟩ := hcut
         clear HX2 HX3 HB11
         have hBN := fun W => before_any T 35 W (by omega)
         rw [HTD.out] at hBN
         obtain ⟨Nm, hNm⟩ : ∃ Nm : ByteArray, Nm = ⟨(lname c).toArray⟩ := ⟨_, rfl⟩
         have hNd : Nm.data.toList = lname c := by rw [hNm]
         have hBN : ∀ W, Calls Tryz.prog 134 #[.string T, .string ⟨#[35]⟩] W fun e w' => e = .returned (.string Nm) ∧ W = w' := fun W => by rw [hNm]; exact hBN W
         have hNz : Nm.size ≤ T.size := by
          have h1 : T.data.toList.length = T.size := by simp
          have h3 : Nm.data.toList.length = Nm.size := by simp
          have h2 := bef_le 35 (bef 124 c)
          rw [hNd] at h3
          rw [HTD.out] at h1
          unfold lname at h3; omega
         obtain ⟨An, hAn⟩ : ∃ An : ByteArray, An = ⟨(lanchor c).toArray⟩ := ⟨_, rfl⟩
         have hAd : An.data.toList = lanchor c := by rw [hAn]
         have hhas : has 35 (bef 124 c) = decide (Nm.size < T.size) := by
          have h1 : T.data.toList.length = T.size := by simp
          have h3 : Nm.data.toList.length = Nm.size := by simp
          rw [hNd] at h3
          rw [HTD.out] at h1
          unfold has
          unfold lname at h3
          rw [h1, h3]
         have ha1 : Nm.size < T.size → ∀ W, Calls Tryz.prog 105 #[.string (T.extract (Nm.size + 1) T.size)] W fun e w' => e = .returned (.string An) ∧ W = w' := fun h W => by
          have h3 : Nm.data.toList.length = Nm.size := by simp
          rw [hNd] at h3
          have := rtrim_any (T.extract (Nm.size + 1) T.size) W (by rw [ByteArray.size_extract]; omega)
          rw [Lib.extract_to_end, HTD.out] at this
          rw [hAn]
          unfold lanchor
          rw [hhas, decide_eq_true h, if_pos rfl]
          unfold aftr
          unfold lname at h3
          rw [h3]
          exact this
         have ha2 : ¬ Nm.size < T.size → An = ⟨#[]⟩ := fun h => bytes_ext (by
          rw [hAd]
          unfold lanchor
          rw [hhas, decide_eq_false h]
          rfl)
         obtain ⟨b14, hb14⟩ : ∃ b14, decide (Nm.size < T.size) = b14 := ⟨_, rfl⟩
         have HBN := Lib.hid hBN
         have HND := Lib.hid hNd
         have HAD := Lib.hid hAd
         have HA1 := Lib.hid ha1
         have HA2 := Lib.hid ha2
         clear hBN hNm hNd hAn hAd hhas ha1 ha2
         go_wp2_with fail
         refine (HBN.out _).mono ?_
         rintro e w1 ⟨rfl, rfl⟩
         go_upto_if 81 with fail
         go_cut [12] from 82 to 87 (fun s12 wc => s12 = .string An ∧ W0 = wc)
         case first =>
          cases b14 with
          | true =>
            have hlt : Nm.size < T.size := of_decide_eq_true hb14
            have h2 : (Nm.size : Int) + 1 ≤ (T.size : Int) := by omega
            have H1 := Lib.hid (HA1.out hlt)
            clear hb14
            go_wp2_with fail
            refine (H1.out _).mono ?_
            rintro e w1 ⟨rfl, rfl⟩
            go_wp2_with fail
            go_meet
            case rel => exact ⟨by first | rfl | trivial, by first | rfl | trivial⟩
          | false =>
            have hlt : ¬ Nm.size < T.size := of_decide_eq_false hb14
            have H1 := Lib.hid (HA2.out hlt)
            clear hb14
            go_wp2_with fail
            go_meet
            case rel => exact ⟨by rw [H1.out], by trivial⟩
         case rest =>
          obtain ⟨rfl, rfl⟩ := hcut
          clear HA1 HA2 HBN HTT HB
          have hED := fun W => redges_any Nm W (by omega)
          rw [HND.out] at hED
          obtain ⟨Ed, hEd⟩ : ∃ Ed : ByteArray, Ed = ⟨(trimW bl3 (lname c)).toArray⟩ := ⟨_, rfl⟩
          rw [← hEd] at hED
          have hEdd : Ed.data.toList = trimW bl3 (lname c) := by rw [hEd]
          obtain ⟨b17, hb17⟩ : ∃ b17, b17 = ((lname c).any (fun x => !(bl3 x)) || decide (lanchor c = [])) := ⟨_, rfl⟩
          have hte := trim_empty (lname c)
          have HED := Lib.hid hED
          have HEDD := Lib.hid hEdd
          have HB17 := Lib.hid hb17
          have HTE := Lib.hid hte
          clear hED hEd hEdd hb17 hte
          go_upto_region 17 with fail
          obtain ⟨W1, hW1⟩ : ∃ W1, W1 = W0.alloc (.cells #[.int .i64 4, .string ⟨#[]⟩, .int .i64 0, .string ⟨#[]⟩, .string An, .slice none 0 0] 56) := ⟨_, rfl⟩
          have hK1 := Known.made W0 56 #[.int .i64 4, .string ⟨#[]⟩, .int .i64 0, .string ⟨#[]⟩, .string An, .slice none 0 0]
          have hb1 := below_new0 W0 (.cells #[.int .i64 4, .string ⟨#[]⟩, .int .i64 0, .string ⟨#[]⟩, .string An, .slice none 0 0] 56)
          rw [← hW1] at hK1 hb1 ⊢
          rw [hW0z] at hK1
          have HK1 := Lib.hid hK1
          have HK01 := Lib.hid (HK0.out.on hb1)
          have HB01 := Lib.hid (below_then HB0.out hb1)
          have hW1z : W1.heap.size = w.heap.size + 2 := by rw [hW1, World.size_alloc, hW0z]
          clear hW1 hK1 hb1
          obtain ⟨ba, hba⟩ : ∃ ba, ba = (An.toList.isEmpty) := ⟨_, rfl⟩
          have hba2 : ba = decide (lanchor c = []) := by
           rw [hba, ← HAD.out]
           by_cases h : An.data.toList = []
           ·rw [empty_yes h, decide_eq_true h]
           ·rw [empty_no h, decide_eq_false h]
          have hbe : Ed.toList.isEmpty = !((lname c).any (fun x => !(bl3 x))) := by
           by_cases h : Ed.data.toList = []
           ·rw [empty_yes h]
            rw [HEDD.out, HTE.out] at h
            rw [h]; rfl
           ·rw [empty_no h]
            rw [HEDD.out, HTE.out] at h
            simp at h
            simp [h]
          obtain ⟨be, hbee⟩ : ∃ be, be = (lname c).any (fun x => !(bl3 x)) := ⟨_, rfl⟩
          rw [← hbee] at hbe
          have hb17 : b17 = (be || ba) := by rw [HB17.out, hbee, hba2]
          have HB17V := Lib.hid hb17
          have HBE := Lib.hid hbee
          have HBA := Lib.hid hba2
          replace hba := hba.symm
          clear hb17 hbee hba2 HEDD HTE
          go_cut [96] from 90 to 96 (fun s96 wc => s96 = .bool b17 ∧ W1 = wc)
          case first =>
           cases be with
           | true =>
             have hbe : Ed.toList.isEmpty = false := hbe
             go_wp2_with fail
             refine (HED.out _).mono ?_
             rintro e w1 ⟨rfl, rfl⟩
             go_wp2_with fail
             go_meet
             case rel => exact ⟨by rw [HB17V.out]; rfl, by first | rfl | trivial⟩
           | false =>
             have hbe : Ed.toList.isEmpty = true := hbe
             go_wp2_with fail
             refine (HED.out _).mono ?_
             rintro e w1 ⟨rfl, rfl⟩
             go_wp2_with fail
             go_meet
             case rel => exact ⟨by rw [HB17V.out]; rfl, by first | rfl | trivial⟩
          case rest =>
           obtain ⟨rfl, rfl⟩ := hcut
           have HBAV := Lib.hid hba
           clear hba hbe HED HB17V
           go_upto_if 96 with fail
           go_cut [14, 15, 16] from 97 to 120 (fun s14 s15 s16 wc => ∃ (sp : Int) (nm : ByteArray), Known wc (w.heap.size + 1) 56 #[.int .i64 4, .string ⟨#[]⟩, .int .i64 sp, .string nm, .string An, .slice none 0 0] ∧ Known wc w.heap.size 56 #[.int .i64 0, .string ⟨#[]⟩, .int .i64 0, .string ⟨#[]⟩, .string ⟨#[]⟩, .slice none 0 0] ∧ Below w.heap.size w wc ∧ linkC read c = some (some (.cons 4 ⟨#[]⟩ sp nm An (read (label c)) .nil)))
           case first =>
            cases b17 with
            | false =>
              have hlc : linkC read c = some (some (.cons 4 ⟨#[]⟩ 0 ⟨#[]⟩ An (read (label c)) .nil)) := by
               unfold linkC
               rw [if_neg (by rw [← HB17.out]; simp)]
               have : An = ⟨(lanchor c).toArray⟩ := bytes_ext (by rw [HAD.out])
               rw [this]
              have HLC := Lib.hid hlc
              clear hlc
              go_wp2_with fail
              go_meet
              case rel => exact ⟨0, ⟨#[]⟩, HK1.out, HK01.out, HB01.out, HLC.out⟩
            | true =>
              have hlk0 : linkC read c = if (parse (lname c)).2.2 ≠ 0 then none
                else if (parse (lname c)).1 = 4 ∧ ((lname c).dropWhile bl3).head? ≠ some 58 then some none
                else some (some (.cons 4 ⟨#[]⟩ (parse (lname c)).1 ⟨(parse (lname c)).2.1.toArray⟩ ⟨(lanchor c).toArray⟩ (read (label c)) .nil)) := by
               unfold linkC
               rw [if_pos (by rw [← HB17.out])]
              have hAe : (⟨(lanchor c).toArray⟩ : ByteArray) = An := bytes_ext (by rw [HAD.out])
              rw [hAe] at hlk0
              have hcol := @parse_colon (lname c)
              have hPA := rparse_any Nm W1 (by omega)
              rw [HND.out] at hPA
              obtain ⟨sp, hsp⟩ : ∃ sp : Int, sp = ((parse (lname c)).1 : Int) := ⟨_, rfl⟩
              obtain ⟨nm, hnm⟩ : ∃ nm : ByteArray, nm = ⟨(parse (lname c)).2.1.toArray⟩ := ⟨_, rfl⟩
              obtain ⟨G, hG⟩ : ∃ G, G = (parse (lname c)).2.2 := ⟨_, rfl⟩
              rw [← hsp, ← hnm, ← hG] at hPA
              rw [← hsp, ← hnm, ← hG] at hlk0
              have hcol2 : sp = 4 → 58 ∈ lname c := fun h => hcol (by omega)
              have hsp4 : (parse (lname c)).1 = 4 ↔ sp = 4 := by omega
              simp only [hsp4] at hlk0
              have HPA := Lib.hid hPA
              have HLK0 := Lib.hid hlk0
              have HCOL := Lib.hid hcol2
              clear hlk0 hAe hcol hcol2 hPA hsp hnm hG hsp4
              by_cases hg : G = 0
              ·have g5 : ((G : Int) != 0) = false := by simp; omega
               have hlk0 := HLK0.out
               rw [if_neg (by omega)] at hlk0
               have hSK := fun W => skip_any Nm true W (by omega)
               rw [HND.out, skp_true] at hSK
               have HSK := Lib.hid hSK
               have HLK1 := Lib.hid hlk0
               clear hlk0 hSK HLK0 hg
               go_wp2_with fail
               refine HPA.out.mono ?_
               rintro e w2 ⟨rfl, hb2⟩
               have hk1 := (HK1.out.on hb2).alloc (.cells #[.int .i64 sp, .string nm] 54)
               have hk0 := (HK01.out.on hb2).alloc (.cells #[.int .i64 sp, .string nm] 54)
               have hkt := Known.made w2 54 #[.int .i64 sp, .string nm]
               obtain ⟨t0, t1⟩ := hkt.two
               have tl := hkt.lt
               obtain ⟨x0, x1, x2, x3, x4, x5⟩ := hk1.six
               obtain ⟨z0, z1, z2, z3, z4, z5⟩ := hk0.six
               have f0 := hk0.free 0
               have f1 := hk0.free 1
               have f2 := hk0.free 2
               have f3 := hk0.free 3
               have f4 := hk0.free 4
               have f5 := hk0.free 5
               have xf2 := hk1.free 2
               have xf3 := hk1.free 3
               have xl := hk1.lt
               have zl := hk0.lt
               have hzz := hb2.size
               have HKX := Lib.hid hk1
               have HKZ := Lib.hid hk0
               have HB2 := Lib.hid (below_then (below_then HB01.out hb2) (below_new0 w2 (.cells #[.int .i64 sp, .string nm] 54)))
               clear hk1 hk0 hkt hb2
               go_wp2_with fail
               refine (HSK.out _).mono ?_
               rintro e w3 ⟨rfl, rfl⟩
               by_cases h4 : sp = 4
               ·have g6 : (sp == 4) = true := by simpa using h4
                have hKl := not_blank (HCOL.out h4)
                have hNl : (lname c).length = Nm.size := by rw [← HND.out]; simp
                have hdw := drop_tw bl3 (lname c)
                obtain ⟨K, hK⟩ : ∃ K, K = ((lname c).takeWhile bl3).length := ⟨_, rfl⟩
                rw [← hK] at hKl hdw ⊢
                have hKs : K < Nm.size := by omega
                obtain ⟨h3, h5⟩ := byte_at Nm K hKs
                have hhd : ((lname c).dropWhile bl3).head? = some Nm[K] := by
                 rw [← hdw, List.head?_drop]
                 have := HND.out
                 rw [← this, List.getElem?_eq_getElem h3, h5]
                have h58 : Nm[K] = 58 ↔ Nm[K].toNat = 58 := u8_eq (by decide)
                have hlk1 := HLK1.out
                rw [hhd] at hlk1
                have h58' : (sp = 4 ∧ some Nm[K] ≠ some 58) ↔ Nm[K].toNat ≠ 58 := by
                 constructor
                 ·rintro ⟨_, h⟩ e; exact h (by rw [h58.2 e])
                 ·intro h; exact ⟨h4, fun e => h (h58.1 (Option.some.inj e))⟩
                simp only [h58'] at hlk1
                obtain ⟨x, hx⟩ : ∃ x, Nm[K].toNat = x := ⟨_, rfl⟩
                rw [hx] at hlk1
                have HLK2 := Lib.hid hlk1
                have H4 := Lib.hid h4
                have HDD := Lib.hid h3
                clear hlk1 h58 h58' hhd h5 hdw hKl hNl hK HLK1 HCOL h4
                by_cases hx58 : x = 58
                ·have g7 : ((x : Int) != 58) = false := by simp; omega
                 have hlc : linkC read c = some (some (.cons 4 ⟨#[]⟩ sp nm An (read (label c)) .nil)) := by rw [HLK2.out, if_neg (by omega)]
                 have HLC := Lib.hid hlc
                 clear hlc hx58
                 go_wp2_with fail
                 go_meet
                 case rel => exact ⟨sp, nm, (HKX.out.put 2 (.int .i64 sp)).put 3 (.string nm), (HKZ.out.far (p := ⟨w.heap.size + 1, 2, none⟩) (show w.heap.size ≠ w.heap.size + 1 by omega) _).far (p := ⟨w.heap.size + 1, 3, none⟩) (show w.heap.size ≠ w.heap.size + 1 by omega) _, (HB2.out.setCell (p := ⟨w.heap.size + 1, 2, none⟩) (Nat.le_succ _) _).setCell (p := ⟨w.heap.size + 1, 3, none⟩) (Nat.le_succ _) _, HLC.out⟩
                ·have g7 : ((x : Int) != 58) = true := by simp; omega
                 have hv : linkE read l = some (none, k + 4) := by rw [HLK.out, HLK2.out, if_pos hx58]; rfl
                 have HV := Lib.hid hv
                 clear hv hx58
                 go_wp2_with fail
                 have hkz : Known ((((((((w2.alloc (.cells #[.int .i64 sp, .string nm] 54))).setCell ⟨w.heap.size, 0, none⟩ (.int .i64 0)).setCell ⟨w.heap.size, 1, none⟩ (.string ⟨#[]⟩)).setCell ⟨w.heap.size, 2, none⟩ (.int .i64 0)).setCell ⟨w.heap.size, 3, none⟩ (.string ⟨#[]⟩)).setCell ⟨w.heap.size, 4, none⟩ (.string ⟨#[]⟩)).setCell ⟨w.heap.size, 5, none⟩ (.slice none 0 0)) w.heap.size 56 #[.int .i64 0, .string ⟨#[]⟩, .int .i64 0, .string ⟨#[]⟩, .string ⟨#[]⟩, .slice none 0 0] := ((((((HKZ.out).put 0 (.int .i64 0)).put 1 (.string ⟨#[]⟩)).put 2 (.int .i64 0)).put 3 (.string ⟨#[]⟩)).put 4 (.string ⟨#[]⟩)).put 5 (.slice none 0 0)
                 have hbel := ((((((HB2.out).setCell (p := ⟨w.heap.size, 0, none⟩) (Nat.le_refl _) (.int .i64 0)).setCell (p := ⟨w.heap.size, 1, none⟩) (Nat.le_refl _) (.string ⟨#[]⟩)).setCell (p := ⟨w.heap.size, 2, none⟩) (Nat.le_refl _) (.int .i64 0)).setCell (p := ⟨w.heap.size, 3, none⟩) (Nat.le_refl _) (.string ⟨#[]⟩)).setCell (p := ⟨w.heap.size, 4, none⟩) (Nat.le_refl _) (.string ⟨#[]⟩)).setCell (p := ⟨w.heap.size, 5, none⟩) (Nat.le_refl _) (.slice none 0 0)
                 obtain ⟨y0, y1, y2, y3, y4, y5⟩ := hkz.six
                 refine bodyPost_ret (v := .tuple #[.agg #[.int .i64 0, .string ⟨#[]⟩, .int .i64 0, .string ⟨#[]⟩, .string ⟨#[]⟩, .slice none 0 0], .bool false, .int .i64 ((E : Int) + 2)]) (by simp only [results, Tryz.results109]; simp [go_sem, y0, y1, y2, y3, y4, y5]) rfl ⟨?_, hbel⟩
                 rw [HV.out]
                 exact ⟨_, _, _, _, _, _, _, _, .nil, _, _, rfl, ins_none, rfl, by rw [HE.out]; omega⟩
               ·have g6 : (sp == 4) = false := by simpa using h4
                have hlc : linkC read c = some (some (.cons 4 ⟨#[]⟩ sp nm An (read (label c)) .nil)) := by rw [HLK1.out, if_neg (by rintro ⟨h, _⟩; exact h4 h)]
                have HLC := Lib.hid hlc
                clear hlc h4
                go_wp2_with fail
                go_meet
                case rel => exact ⟨sp, nm, (HKX.out.put 2 (.int .i64 sp)).put 3 (.string nm), (HKZ.out.far (p := ⟨w.heap.size + 1, 2, none⟩) (show w.heap.size ≠ w.heap.size + 1 by omega) _).far (p := ⟨w.heap.size + 1, 3, none⟩) (show w.heap.size ≠ w.heap.size + 1 by omega) _, (HB2.out.setCell (p := ⟨w.heap.size + 1, 2, none⟩) (Nat.le_succ _) _).setCell (p := ⟨w.heap.size + 1, 3, none⟩) (Nat.le_succ _) _, HLC.out⟩
              ·have g5 : ((G : Int) != 0) = true := by simp; omega
               have hlk0 := HLK0.out
               rw [if_pos hg] at hlk0
               have hv : linkE read l = none := by rw [HLK.out, hlk0]; rfl
               have HV := Lib.hid hv
               clear hlk0 hv HLK0 hg HCOL
               go_wp2_with fail
               refine HPA.out.mono ?_
               rintro e w2 ⟨rfl, hb2⟩
               have hk0 := (HK01.out.on hb2).alloc (.cells #[.int .i64 sp, .string nm] 54)
               obtain ⟨z0, z1, z2, z3, z4, z5⟩ := hk0.six
               have f0 := hk0.free 0
               have f1 := hk0.free 1
               have f2 := hk0.free 2
               have f3 := hk0.free 3
               have f4 := hk0.free 4
               have f5 := hk0.free 5
               have zl := hk0.lt
               have hzz := hb2.size
               have HKZ := Lib.hid hk0
               have HB2 := Lib.hid (below_then (below_then HB01.out hb2) (below_new0 w2 (.cells #[.int .i64 sp, .string nm] 54)))
               clear hk0 hb2
               go_wp2_with fail
               have hkz : Known ((((((((w2.alloc (.cells #[.int .i64 sp, .string nm] 54))).setCell ⟨w.heap.size, 0, none⟩ (.int .i64 0)).setCell ⟨w.heap.size, 1, none⟩ (.string ⟨#[]⟩)).setCell ⟨w.heap.size, 2, none⟩ (.int .i64 0)).setCell ⟨w.heap.size, 3, none⟩ (.string ⟨#[]⟩)).setCell ⟨w.heap.size, 4, none⟩ (.string ⟨#[]⟩)).setCell ⟨w.heap.size, 5, none⟩ (.slice none 0 0)) w.heap.size 56 #[.int .i64 0, .string ⟨#[]⟩, .int .i64 0, .string ⟨#[]⟩, .string ⟨#[]⟩, .slice none 0 0] := ((((((HKZ.out).put 0 (.int .i64 0)).put 1 (.string ⟨#[]⟩)).put 2 (.int .i64 0)).put 3 (.string ⟨#[]⟩)).put 4 (.string ⟨#[]⟩)).put 5 (.slice none 0 0)
               have hbel := ((((((HB2.out).setCell (p := ⟨w.heap.size, 0, none⟩) (Nat.le_refl _) (.int .i64 0)).setCell (p := ⟨w.heap.size, 1, none⟩) (Nat.le_refl _) (.string ⟨#[]⟩)).setCell (p := ⟨w.heap.size, 2, none⟩) (Nat.le_refl _) (.int .i64 0)).setCell (p := ⟨w.heap.size, 3, none⟩) (Nat.le_refl _) (.string ⟨#[]⟩)).setCell (p := ⟨w.heap.size, 4, none⟩) (Nat.le_refl _) (.string ⟨#[]⟩)).setCell (p := ⟨w.heap.size, 5, none⟩) (Nat.le_refl _) (.slice none 0 0)
               obtain ⟨y0, y1, y2, y3, y4, y5⟩ := hkz.six
               refine bodyPost_ret (v := .tuple #[.agg #[.int .i64 0, .string ⟨#[]⟩, .int .i64 0, .string ⟨#[]⟩, .string ⟨#[]⟩, .slice none 0 0], .bool false, .int .i64 0]) (by simp only [results, Tryz.results109]; simp [go_sem, y0, y1, y2, y3, y4, y5]) rfl ⟨?_, hbel⟩
               rw [HV.out]
               exact link_none _ _ _
           case rest =>
            obtain ⟨sp, nm, hk1, hk0, hbw, hlc⟩ := hcut
            have hLz : Lb.size < s.size := by
             have h1 : Lb.data.toList.length = Lb.size := by simp
             have h2 : X.data.toList.length = X.size := by simp
             have h3 := label_le c
             rw [HLBD.out] at h1
             rw [HXC.out] at h2
             omega
            have hP := IH.out Lb wc (by omega) (by omega)
            rw [HLBD.out] at hP
            obtain ⟨M, hM⟩ : ∃ M, M = (read (label c)).len := ⟨_, rfl⟩
            rw [← hM] at hP
            have hv : linkE read l = some (some (.cons 4 ⟨#[]⟩ sp nm An (read (label c)) .nil), k + 4) := by rw [HLK.out, hlc]; rfl
            have HV := Lib.hid hv
            have HP := Lib.hid hP
            have HKK1 := Lib.hid hk1
            have HKK0 := Lib.hid hk0
            have HBW := Lib.hid hbw
            have hl1 := hk1.lt
            clear hP hk1 hk0 hbw hlc hM hv HK1 HK01 HB01 HK0 HB0 hW0z hW1z
            go_wp2_with fail
            refine HP.out.mono ?_
            rintro e w2 ⟨p, cc, rfl, hsl, hb⟩
            have hk1 := HKK1.out.on hb
            have hk0 := HKK0.out.on hb
            obtain ⟨x0, x1, x2, x3, x4, x5⟩ := hk1.six
            obtain ⟨z0, z1, z2, z3, z4, z5⟩ := hk0.six
            have xf := hk1.free 5
            have f0 := hk0.free 0
            have f1 := hk0.free 1
            have f2 := hk0.free 2
            have f3 := hk0.free 3
            have f4 := hk0.free 4
            have f5 := hk0.free 5
            have xl := hk1.lt
            have zl := hk0.lt
            have HKX := Lib.hid hk1
            have HKZ := Lib.hid hk0
            have HSL := Lib.hid hsl
            have HB2 := Lib.hid (below_then HBW.out hb)
            have hzz := HBW.out.size
            have hne : w.heap.size ≠ w.heap.size + 1 := by omega
            clear hk1 hk0 hsl hb
            go_wp2_with fail
            have hkz : Known (((((((w2.setCell ⟨w.heap.size + 1, 5, none⟩ (.slice p M cc)).setCell ⟨w.heap.size, 0, none⟩ (.int .i64 4)).setCell ⟨w.heap.size, 1, none⟩ (.string ⟨#[]⟩)).setCell ⟨w.heap.size, 2, none⟩ (.int .i64 sp)).setCell ⟨w.heap.size, 3, none⟩ (.string nm)).setCell ⟨w.heap.size, 4, none⟩ (.string An)).setCell ⟨w.heap.size, 5, none⟩ (.slice p M cc)) w.heap.size 56 #[.int .i64 4, .string ⟨#[]⟩, .int .i64 sp, .string nm, .string An, .slice p M cc] :=
     ((((((HKZ.out.far (p := ⟨w.heap.size + 1, 5, none⟩) hne (.slice p M cc)).put 0 (.int .i64 4)).put 1 (.string ⟨#[]⟩)).put 2 (.int .i64 sp)).put 3 (.string nm)).put 4 (.string An)).put 5 (.slice p M cc)
            have hkept : Kept (fun k => wc.heap.size ≤ k) (fun k => wc.heap.size ≤ k) w2 (((((((w2.setCell ⟨w.heap.size + 1, 5, none⟩ (.slice p M cc)).setCell ⟨w.heap.size, 0, none⟩ (.int .i64 4)).setCell ⟨w.heap.size, 1, none⟩ (.string ⟨#[]⟩)).setCell ⟨w.heap.size, 2, none⟩ (.int .i64 sp)).setCell ⟨w.heap.size, 3, none⟩ (.string nm)).setCell ⟨w.heap.size, 4, none⟩ (.string An)).setCell ⟨w.heap.size, 5, none⟩ (.slice p M cc)) := by
             have h0 : ∀ k, wc.heap.size ≤ k → k ≠ w.heap.size := fun k h => by omega
             have h1 : ∀ k, wc.heap.size ≤ k → k ≠ w.heap.size + 1 := fun k h => by omega
             exact ((((((Kept.put h1 _ _).trans (Kept.put h0 _ _)).trans (Kept.put h0 _ _)).trans (Kept.put h0 _ _)).trans (Kept.put h0 _ _)).trans (Kept.put h0 _ _)).trans (Kept.put h0 _ _)
            have hbel := (((((((HB2.out.setCell (p := ⟨w.heap.size + 1, 5, none⟩) (Nat.le_succ _) (.slice p M cc)).setCell (p := ⟨w.heap.size, 0, none⟩) (Nat.le_refl _) (.int .i64 4)).setCell (p := ⟨w.heap.size, 1, none⟩) (Nat.le_refl _) (.string ⟨#[]⟩)).setCell (p := ⟨w.heap.size, 2, none⟩) (Nat.le_refl _) (.int .i64 sp)).setCell (p := ⟨w.heap.size, 3, none⟩) (Nat.le_refl _) (.string nm)).setCell (p := ⟨w.heap.size, 4, none⟩) (Nat.le_refl _) (.string An)).setCell (p := ⟨w.heap.size, 5, none⟩) (Nat.le_refl _) (.slice p M cc))
            have hsl2 := insS.sl_on (insS.sl_on HSL.out hkept) (Kept.mono (q' := fun k => w.heap.size ≤ k) fun k hk _ => Nat.le_trans hzz hk)
            obtain ⟨y0, y1, y2, y3, y4, y5⟩ := hkz.six
            refine bodyPost_ret (v := .tuple #[.agg #[.int .i64 4, .string ⟨#[]⟩, .int .i64 sp, .string nm, .string An, .slice p M cc], .bool true, .int .i64 ((E : Int) + 2)]) (by simp only [results, Tryz.results109]; simp [go_sem, y0, y1, y2, y3, y4, y5]) rfl ⟨?_, hbel⟩
            rw [HV.out]
            exact ⟨_, _, _, _, _, _, _, _, _, _, _, rfl, hsl2, rfl, by rw [HE.out]; omega, rfl⟩
    ·obtain ⟨m, hm, _⟩ := index_nat hy
     rw [idx_some (by rw [e3]; exact hm), Nat.zero_add] at h1
     have HE : Hid (linkE read l = none) := Lib.hid (by rw [hlk, if_pos (.inl hy)])
     have HI := Lib.hid hI
     have H1 := Lib.hid h1
     have HX := Lib.hid hX
     have g1 : decide ((E : Int) < 0) = false := decide_eq_false (by omega)
     have g2 : (i : Int) + 2 ≤ (E : Int) := by omega
     have g3 : (E : Int) ≤ (s.size : Int) := by omega
     clear hI hlk hx hr hrs e0 HL HB1 h1 h2 hX hXc hc hy hm hE
     go_wp2_with fail
     refine (HI.out _).mono ?_
     rintro e w1 ⟨rfl, rfl⟩
     go_wp2_with fail
     rw [← HX.out]
     refine (H1.out _).mono ?_
     rintro e w1 ⟨rfl, rfl⟩
     go_wp2_with fail
     exact bodyPost_ret (v := .tuple #[.agg #[.int .i64 0, .string ⟨#[]⟩, .int .i64 0, .string ⟨#[]⟩, .string ⟨#[]⟩, .slice none 0 0], .bool false, .int .i64 0]) (by simp [results, Tryz.results109, go_sem]) rfl ⟨by rw [HE.out]; exact link_none _ _ _, below_new0 _ _⟩
end Go.Proofs.YthieinfonomeeaaGreatDoor
