/-
  The claim's own texts, packed. Conditions: those typed in each theorem.
-/
import Derived.Test.YthieinfonomeeaaGreatDoorZAau
import Derived.Shelf.Strings.SlTrimAscii
import Derived.Test.YthieinfonomeeaaGreatDoorZAac
namespace Go.Proofs.YthieinfonomeeaaGreatDoor
open Go.RowKit Doc Tit Inl
set_option linter.unusedVariables false
attribute [local go_sem ↓] Go.wp_at_zero Go.wp_at_succ
theorem ptrim_set (s : ByteArray) (cs : List UInt8) (w : World) (hs : s.size ≤ 100000000) (hc : cs.length ≤ 100) (ha : cs.all (fun b => decide (b.toNat < 128)) = true) :
  Calls Tryz.prog 30 #[.string s, .string ⟨cs.toArray⟩] w fun e w' => e = .returned (.string ⟨(Lib.trimS s.data.toList cs).toArray⟩) ∧ Below w.heap.size w w' :=
 Any.strings_Trim_laid Tryz.lays160 (by kernel_rfl) s ⟨cs.toArray⟩ w (by omega) (by rw [Lib.size_mk]; omega) (ascii_of_all ha)
theorem ptrimleft_set (s : ByteArray) (cs : List UInt8) (w : World) (hs : s.size ≤ 100000000) (hc : cs.length ≤ 100) (ha : cs.all (fun b => decide (b.toNat < 128)) = true) :
  Calls Tryz.prog 97 #[.string s, .string ⟨cs.toArray⟩] w fun e w' => e = .returned (.string ⟨(Lib.trimLeftS s.data.toList cs).toArray⟩) ∧ Below w.heap.size w w' :=
 Any.strings_TrimLeft_laid Tryz.lays161 (by kernel_rfl) s ⟨cs.toArray⟩ w (by rw [Lib.size_mk]; omega) (ascii_of_all ha)
theorem trim_comm (p : UInt8 → Bool) : ∀ l : List UInt8, ((l.reverse.dropWhile p).reverse).dropWhile p = ((l.dropWhile p).reverse.dropWhile p).reverse
 | [] => rfl
 | c :: r => by
   have ih := trim_comm p r
   rw [List.reverse_cons, List.dropWhile_append]
   cases hp : p c with
   | true =>
     have e1 : (c :: r).dropWhile p = r.dropWhile p := List.dropWhile_cons_of_pos hp
     rw [e1]
     by_cases he : (r.reverse.dropWhile p).isEmpty = true
     ·rw [if_pos he]
      have e2 : r.reverse.dropWhile p = [] := List.isEmpty_iff.1 he
      have e3 : [c].dropWhile p = [] := by rw [List.dropWhile_cons_of_pos hp, List.dropWhile_nil]
      rw [e3, ← ih, e2]
     ·rw [if_neg he, List.reverse_append]
      show (c :: (r.reverse.dropWhile p).reverse).dropWhile p = _
      rw [List.dropWhile_cons_of_pos hp, ih]
   | false =>
     have e1 : (c :: r).dropWhile p = c :: r := List.dropWhile_cons_of_neg (by simp [hp])
     have e3 : [c].dropWhile p = [c] := List.dropWhile_cons_of_neg (by simp [hp])
     rw [e1, List.reverse_cons, List.dropWhile_append, e3]
     by_cases he : (r.reverse.dropWhile p).isEmpty = true
     ·rw [if_pos he]
      show [c].dropWhile p = [c]
      exact e3
     ·rw [if_neg he, List.reverse_append]
      show (c :: (r.reverse.dropWhile p).reverse).dropWhile p = c :: (r.reverse.dropWhile p).reverse
      exact List.dropWhile_cons_of_neg (by simp [hp])
theorem trimS_eq (l cs : List UInt8) : Lib.trimS l cs = trimW (cs.contains ·) l := trim_comm _ l
theorem bl3_set : (([9, 32, 95] : List UInt8).contains ·) = bl3 := by
 funext c
 simp only [List.contains_cons, List.contains_nil, Bool.or_false, bl3]
 rw [Bool.or_assoc]
theorem ws4_set : (([9, 10, 13, 32] : List UInt8).contains ·) = ws4 := by
 funext c
 simp only [List.contains_cons, List.contains_nil, Bool.or_false, ws4]
 rw [Bool.or_assoc, Bool.or_assoc]
theorem ptrim_bl3 (s : ByteArray) (w : World) (hs : s.size ≤ 100000000) : Calls Tryz.prog 30 #[.string s, .string ⟨#[9, 32, 95]⟩] w fun e w' => e = .returned (.string ⟨(trimW bl3 s.data.toList).toArray⟩) ∧ Below w.heap.size w w' := by
 have h := ptrim_set s [9, 32, 95] w hs (by decide) (by decide)
 rw [trimS_eq, bl3_set] at h
 exact h
theorem ptrimleft_bl3 (s : ByteArray) (w : World) (hs : s.size ≤ 100000000) : Calls Tryz.prog 97 #[.string s, .string ⟨#[9, 32, 95]⟩] w fun e w' => e = .returned (.string ⟨(s.data.toList.dropWhile bl3).toArray⟩) ∧ Below w.heap.size w w' := by
 have h := ptrimleft_set s [9, 32, 95] w hs (by decide) (by decide)
 unfold Lib.trimLeftS at h
 rw [bl3_set] at h
 exact h
theorem pstrim_any (s : ByteArray) (w : World) (hs : s.size ≤ 100000000) : Calls Tryz.prog 95 #[.string s] w fun e w' => e = .returned (.string ⟨(trimW ws4 s.data.toList).toArray⟩) ∧ Below w.heap.size w w' := by
 have h := ptrim_set s [9, 10, 13, 32] w hs (by decide) (by decide)
 rw [trimS_eq, ws4_set] at h
 have H := Lib.hid h
 clear h
 go_enter Tryz.func95, Tryz.ntmps95
 go_wp2_with fail
 refine H.out.mono ?_
 rintro e w1 ⟨rfl, hb⟩
 go_wp2_with fail
 go_ret
 exact ⟨rfl, hb⟩
theorem pword_any (c : UInt8) (w : World) : Calls Tryz.prog 150 #[.int .u8 (c.toNat : Int)] w fun e w' => e = .returned (.bool (word c)) ∧ w = w' := by
 have hD := pdigit_any c w
 rw [word_eq]
 rw [dg_eq] at hD
 generalize c.toNat = x at hD ⊢
 obtain ⟨b, hb⟩ : ∃ b, b = (decide (48 ≤ x) && decide (x ≤ 57)) := ⟨_, rfl⟩
 rw [← hb] at hD ⊢
 have HD := Lib.hid hD
 clear hD hb
 go_enter Tryz.func150, Tryz.ntmps150
 go_wp2_with fail
 refine HD.out.mono ?_
 rintro e w1 ⟨rfl, rfl⟩
 cases b with
 | true =>
   go_wp2_with fail
   go_ret
   exact ⟨by simp, rfl⟩
 | false =>
   have hd : ∀ n : Nat, decide ((x : Int) ≤ (n : Int)) = decide (x ≤ n) := fun n => by rw [Bool.eq_iff_iff]; simp
   by_cases a1 : 97 ≤ x
   ·have g1 : decide ((97 : Int) ≤ (x : Int)) = true := decide_eq_true (by omega)
    by_cases a2 : x ≤ 122
    ·have g2 : decide ((x : Int) ≤ 122) = true := decide_eq_true (by omega)
     have HV : Hid ((false || (decide (97 ≤ x) && decide (x ≤ 122)) || (decide (65 ≤ x) && decide (x ≤ 90)) || decide (x = 45) || decide (x = 95)) = true) := Lib.hid (by simp [a1, a2])
     clear a1 a2 hd
     go_wp2_with fail
     go_ret
     exact ⟨by rw [HV.out]; rfl, rfl⟩
    ·have g2 : decide ((x : Int) ≤ 122) = false := decide_eq_false (by omega)
     have g3 : decide ((65 : Int) ≤ (x : Int)) = true := decide_eq_true (by omega)
     have g4 : decide ((x : Int) ≤ 90) = false := decide_eq_false (by omega)
     have g5 : ((x : Int) == 45) = false := by simp; omega
     have g6 : ((x : Int) == 95) = false := by simp; omega
     have HV : Hid ((false || (decide (97 ≤ x) && decide (x ≤ 122)) || (decide (65 ≤ x) && decide (x ≤ 90)) || decide (x = 45) || decide (x = 95)) = false) := Lib.hid (by simp; omega)
     clear a1 a2 hd
     go_wp2_with fail
     go_ret
     exact ⟨by rw [HV.out]; rfl, rfl⟩
   ·have g1 : decide ((97 : Int) ≤ (x : Int)) = false := decide_eq_false (by omega)
    by_cases a3 : 65 ≤ x
    ·have g3 : decide ((65 : Int) ≤ (x : Int)) = true := decide_eq_true (by omega)
     by_cases a4 : x ≤ 90
     ·have g4 : decide ((x : Int) ≤ 90) = true := decide_eq_true (by omega)
      have HV : Hid ((false || (decide (97 ≤ x) && decide (x ≤ 122)) || (decide (65 ≤ x) && decide (x ≤ 90)) || decide (x = 45) || decide (x = 95)) = true) := Lib.hid (by simp [a3, a4])
      clear a1 a3 a4 hd
      go_wp2_with fail
      go_ret
      exact ⟨by rw [HV.out]; rfl, rfl⟩
     ·have g4 : decide ((x : Int) ≤ 90) = false := decide_eq_false (by omega)
      have g5 : ((x : Int) == 45) = false := by simp; omega
      have HV : Hid ((false || (decide (97 ≤ x) && decide (x ≤ 122)) || (decide (65 ≤ x) && decide (x ≤ 90)) || decide (x = 45) || decide (x = 95)) = ((x : Int) == 95)) := Lib.hid (by rw [Bool.eq_iff_iff]; simp; omega)
      clear a1 a3 a4 hd
      go_wp2_with fail
      go_ret
      exact ⟨by rw [HV.out]; rfl, rfl⟩
    ·have g3 : decide ((65 : Int) ≤ (x : Int)) = false := decide_eq_false (by omega)
     by_cases a5 : x = 45
     ·have g5 : ((x : Int) == 45) = true := by simp; omega
      have HV : Hid ((false || (decide (97 ≤ x) && decide (x ≤ 122)) || (decide (65 ≤ x) && decide (x ≤ 90)) || decide (x = 45) || decide (x = 95)) = true) := Lib.hid (by simp [a5])
      clear a1 a3 a5 hd
      go_wp2_with fail
      go_ret
      exact ⟨by rw [HV.out]; rfl, rfl⟩
     ·have g5 : ((x : Int) == 45) = false := by simp; omega
      have HV : Hid ((false || (decide (97 ≤ x) && decide (x ≤ 122)) || (decide (65 ≤ x) && decide (x ≤ 90)) || decide (x = 45) || decide (x = 95)) = ((x : Int) == 95)) := Lib.hid (by rw [Bool.eq_iff_iff]; simp; omega)
      clear a1 a3 a5 hd
      go_wp2_with fail
      go_ret
      exact ⟨by rw [HV.out]; rfl, rfl⟩
theorem enters_word : ∀ args w, (callFunc 150 args).run Tryz.prog w = .ok (.enter 150 args) w := enters_of Tryz.func150 (by kernel_rfl) rfl
end Go.Proofs.YthieinfonomeeaaGreatDoor
namespace Go.Proofs.YthieinfonomeeaaGreatDoor
open Go.RowKit Doc Tit Inl Blk
set_option linter.unusedVariables false
attribute [local go_sem ↓] Go.wp_at_zero Go.wp_at_succ
theorem ptrimright_set (s : ByteArray) (cs : List UInt8) (w : World) (hs : s.size ≤ 100000000) (hc : cs.length ≤ 100) (ha : cs.all (fun b => decide (b.toNat < 128)) = true) :
  Calls Tryz.prog 96 #[.string s, .string ⟨cs.toArray⟩] w fun e w' => e = .returned (.string ⟨(Lib.trimRightS s.data.toList cs).toArray⟩) ∧ Below w.heap.size w w' :=
 Any.strings_TrimRight_laid Tryz.lays162 (by kernel_rfl) s ⟨cs.toArray⟩ w (by omega) (by rw [Lib.size_mk]; omega) (ascii_of_all ha)
theorem tw_dw (p : UInt8 → Bool) (l : List UInt8) : (l.takeWhile p).length + (l.dropWhile p).length = l.length := by
 have h := congrArg List.length (List.takeWhile_append_dropWhile (p := p) (l := l))
 rwa [List.length_append] at h
theorem dw_le (p : UInt8 → Bool) (l : List UInt8) : (l.dropWhile p).length ≤ l.length := by have := tw_dw p l; omega
theorem dw_all {p : UInt8 → Bool} : ∀ {l : List UInt8}, (∀ x ∈ l, p x = true) → l.dropWhile p = []
 | [], _ => rfl
 | c :: l, h => by
   rw [List.dropWhile_cons, if_pos (h c List.mem_cons_self)]
   exact dw_all fun x hx => h x (List.mem_cons_of_mem _ hx)
theorem trimW_empty (p : UInt8 → Bool) (l : List UInt8) : (trimW p l).isEmpty = l.all p := by
 unfold trimW
 rw [List.isEmpty_reverse]
 cases h : l.all p with
 | true =>
   have h1 : l.dropWhile p = [] := dw_all fun x hx => List.all_eq_true.1 h x hx
   rw [h1]; rfl
 | false =>
   cases h2 : (l.dropWhile p).reverse.dropWhile p with
   | cons _ _ => rfl
   | nil =>
     exfalso
     have h3 := drop_nil _ h2
     have h4 : ∀ x ∈ l, p x = true := fun x hx => by
      rw [← List.takeWhile_append_dropWhile (p := p) (l := l)] at hx
      rcases List.mem_append.1 hx with hx | hx
      ·exact tw_all _ x hx
      ·exact h3 x (List.mem_reverse.2 hx)
     rw [List.all_eq_true.2 h4] at h
     cases h
theorem trimW_le (p : UInt8 → Bool) (l : List UInt8) : (trimW p l).length ≤ l.length := by
 unfold trimW
 rw [List.length_reverse]
 refine Nat.le_trans (dw_le _ _) ?_
 rw [List.length_reverse]
 exact dw_le _ _
theorem mk_isEmpty (l : List UInt8) : (⟨l.toArray⟩ : ByteArray).toList.isEmpty = l.isEmpty := by rw [Lib.toList_data]
set_option maxRecDepth 10000 in
theorem pempty_any (s : ByteArray) (w : World) (hs : s.size ≤ 100000000) : Calls Tryz.prog 68 #[.string s] w fun e w' => e = .returned (.bool (emptyL s.data.toList)) ∧ Below w.heap.size w w' := by
 have h := pstrim_any s w hs
 have he := mk_isEmpty (trimW ws4 s.data.toList)
 rw [trimW_empty] at he
 obtain ⟨T, hT⟩ : ∃ T : ByteArray, ⟨(trimW ws4 s.data.toList).toArray⟩ = T := ⟨_, rfl⟩
 rw [hT] at h he
 have hE : T.toList.isEmpty = emptyL s.data.toList := he
 obtain ⟨b, hb⟩ : ∃ b, emptyL s.data.toList = b := ⟨_, rfl⟩
 rw [hb] at hE ⊢
 have H := Lib.hid h
 clear h he hT hb
 go_enter Tryz.func68, Tryz.ntmps68
 go_wp2_with fail
 refine H.out.mono ?_
 rintro e w1 ⟨rfl, hb1⟩
 cases b with
 | true =>
   go_wp2_with fail
   go_ret
   exact ⟨rfl, hb1⟩
 | false =>
   go_wp2_with fail
   go_ret
   exact ⟨rfl, hb1⟩
theorem w3_set : (([9, 13, 32] : List UInt8).contains ·) = w3 := by
 funext c
 simp only [List.contains_cons, List.contains_nil, Bool.or_false, w3]
 rw [Bool.or_assoc]
theorem bt_set : (([32, 9] : List UInt8).contains ·) = bt := by
 funext c
 simp only [List.contains_cons, List.contains_nil, Bool.or_false, bt]
 rw [Bool.or_comm]
theorem one_set (a : UInt8) : (([a] : List UInt8).contains ·) = fun c => decide (c = a) := by
 funext c
 simp only [List.contains_cons, List.contains_nil, Bool.or_false]
 rw [Bool.eq_iff_iff]; simp
set_option maxRecDepth 10000 in
theorem prule_any (s : ByteArray) (w : World) (hs : s.size ≤ 100000000) : Calls Tryz.prog 93 #[.string s] w fun e w' => e = .returned (.bool (ruleL s.data.toList)) ∧ Below w.heap.size w w' := by
 have hz : s.data.toList.length = s.size := by simp
 have h1 := ptrimleft_set s [45] w hs (by decide) (by decide)
 unfold Lib.trimLeftS at h1
 rw [one_set] at h1
 have hl := tw_dw (fun c => decide (c = 45)) s.data.toList
 have hrl : ruleL s.data.toList = (decide (4 ≤ (s.data.toList.takeWhile (fun c => decide (c = 45))).length) && (s.data.toList.dropWhile (fun c => decide (c = 45))).all w3) := rfl
 rw [hrl]
 obtain ⟨R, hR⟩ : ∃ R : ByteArray, R = ⟨(s.data.toList.dropWhile fun c => decide (c = 45)).toArray⟩ := ⟨_, rfl⟩
 have hRl : R.data.toList = s.data.toList.dropWhile fun c => decide (c = 45) := by rw [hR]
 rw [← hR] at h1
 have hRs : R.size = (s.data.toList.dropWhile fun c => decide (c = 45)).length := by rw [← hRl]; simp
 rw [← hRs, hz] at hl
 rw [← hRl]
 obtain ⟨n, hn⟩ : ∃ n, n = (s.data.toList.takeWhile fun c => decide (c = 45)).length := ⟨_, rfl⟩
 rw [← hn] at hl ⊢
 have hT := fun W => ptrim_set R [9, 13, 32] W (by omega) (by decide) (by decide)
 rw [trimS_eq, w3_set] at hT
 have he := mk_isEmpty (trimW w3 R.data.toList)
 rw [trimW_empty] at he
 obtain ⟨T, hTT⟩ : ∃ T : ByteArray, ⟨(trimW w3 R.data.toList).toArray⟩ = T := ⟨_, rfl⟩
 rw [hTT] at hT he
 obtain ⟨b, hb⟩ : ∃ b, R.data.toList.all w3 = b := ⟨_, rfl⟩
 rw [hb] at he ⊢
 have H1 := Lib.hid h1
 have HT := Lib.hid hT
 clear h1 hT hTT hb hn hRs hRl hR hz hrl
 by_cases h4 : 4 ≤ n
 ·have g1 : decide (4 ≤ (s.size : Int) - (R.size : Int)) = true := decide_eq_true (by omega)
  have g2 : decide (4 ≤ n) = true := decide_eq_true h4
  rw [g2]
  clear g2
  cases b with
  | true =>
    go_enter Tryz.func93, Tryz.ntmps93
    go_wp2_with fail
    refine H1.out.mono ?_
    rintro e w1 ⟨rfl, hb1⟩
    go_wp2_with fail
    refine (HT.out _).mono ?_
    rintro e w2 ⟨rfl, hb2⟩
    go_wp2_with fail
    go_ret
    exact ⟨rfl, below_then hb1 hb2⟩
  | false =>
    go_enter Tryz.func93, Tryz.ntmps93
    go_wp2_with fail
    refine H1.out.mono ?_
    rintro e w1 ⟨rfl, hb1⟩
    go_wp2_with fail
    refine (HT.out _).mono ?_
    rintro e w2 ⟨rfl, hb2⟩
    go_wp2_with fail
    go_ret
    exact ⟨rfl, below_then hb1 hb2⟩
 ·have g1 : decide (4 ≤ (s.size : Int) - (R.size : Int)) = false := decide_eq_false (by omega)
  have g2 : decide (4 ≤ n) = false := decide_eq_false h4
  rw [g2, Bool.false_and]
  clear g2
  go_enter Tryz.func93, Tryz.ntmps93
  go_wp2_with fail
  refine H1.out.mono ?_
  rintro e w1 ⟨rfl, hb1⟩
  go_wp2_with fail
  go_ret
  exact ⟨rfl, hb1⟩
end Go.Proofs.YthieinfonomeeaaGreatDoor
namespace Go.Proofs.YthieinfonomeeaaGreatDoor
open Go.RowKit Doc Tit Inl
set_option linter.unusedVariables false
attribute [local go_sem ↓] Go.wp_at_zero Go.wp_at_succ
def PParse (N : Nat) : Prop := ∀ (t : ByteArray) (W : World), t.size < N → t.size ≤ 100000000 → MX W → Calls Tryz.prog 63 #[.string t] W fun e w' =>
 ∃ p c, e = .returned (.slice p (read t.data.toList).len c) ∧ insS.sl (fun k => W.heap.size ≤ k) w' (.slice p (read t.data.toList).len c) (read t.data.toList) ∧ Below W.heap.size W w'
theorem PTurn.of_below {B g : Nat} {w w' : World} {s : S} {D : Nat → Prop} (h : PP B g w s D) (hb : Below w.heap.size w w') : PTurn B g w w' s D :=
 ⟨_, fun j hj hl => ⟨.inl ⟨hj, hl⟩, hb.block j hl⟩, h.fresh hb, hb.mono (by have := h.lt; have := h.le; omega)⟩
theorem contains_eq (s sub : List UInt8) : Lib.contains s sub = decide (Lib.index s sub ≠ -1) := by
 have := Lib.index_ge s sub
 unfold Lib.contains
 by_cases h : Lib.index s sub = -1
 ·rw [decide_eq_false (by omega), decide_eq_false (by simpa using h)]
 ·rw [decide_eq_true (by omega), decide_eq_true h]
theorem contains_nl (c : List UInt8) : Lib.contains c [10] = decide (10 ∈ c) := by
 have h1 := has_mem 10 c
 rw [contains_eq, index_byte]
 unfold bef at h1
 by_cases h : (c.takeWhile (· ≠ 10)).length = c.length
 ·rw [if_pos h, decide_eq_false (by simp), decide_eq_false (fun e => h1.1 e h)]
 ·rw [if_neg h, decide_eq_true (by omega), decide_eq_true (h1.2 h)]
theorem cut_bef (x : UInt8) (l : List UInt8) : Lib.cut l [x] = (bef x l, if has x l then aftr x l else [], has x l) := by
 have hle := bef_le x l
 rw [cut_byte]
 unfold has aftr
 unfold bef at hle ⊢
 by_cases h : (l.takeWhile (· ≠ x)).length = l.length
 ·rw [if_pos h, decide_eq_false (by omega)]
  rw [takeWhile_self h]; rfl
 ·rw [if_neg h, decide_eq_true (by omega)]; rfl
def PLink (B g : Nat) (w w' : World) (s : S) (D : Nat → Prop) (e : Ending) : Option (Option Ins × Nat) → Prop
 | none => e = .returned (.int .i64 0) ∧ PTurn B g w w' s D
 | some (none, n) => e = .returned (.int .i64 n) ∧ PTurn B g w w' s D
 | some (some x, n) => e = .returned (.int .i64 n) ∧ PTurn B g w w' (s.add x) D
set_option maxRecDepth 20000 in
set_option maxHeartbeats 8000000 in
theorem plink_any (N : Nat) (ih : PParse N) (B g : Nat) (w : World) (s : S) (D : Nat → Prop) (t : ByteArray) (hP : PP B g w s D) (hmx : MX w) (hs : t.size ≤ 100000000) (hN : t.size ≤ N) (hm : s.m + 1 ≤ 1000000000) :
  Calls Tryz.prog 126 #[.pointer (some ⟨g, 0, none⟩), .string t] w fun e w' => PLink B g w w' s D e (linkE read t.data.toList) := by
 have hz : t.data.toList.length = t.size := by simp
 obtain ⟨l, hl⟩ : ∃ l, l = t.data.toList := ⟨_, rfl⟩
 have hCP := fun W => Tryz.strings_CutPrefix t ⟨#[91, 91]⟩ W
 have e1 : (⟨#[91, 91]⟩ : ByteArray).data.toList = [91, 91] := rfl
 have e2 : (⟨#[93, 93]⟩ : ByteArray).data.toList = [93, 93] := rfl
 have e3 : (⟨#[10]⟩ : ByteArray).data.toList = [10] := rfl
 rw [e1, ← hl] at hCP
 rw [← hl] at hz ⊢
 obtain ⟨b1, hb1⟩ : ∃ b1, b1 = Lib.hasPrefix l [91, 91] := ⟨_, rfl⟩
 obtain ⟨R, hR⟩ : ∃ R : ByteArray, R = ⟨(Lib.trimPrefix l [91, 91]).toArray⟩ := ⟨_, rfl⟩
 rw [← hb1, ← hR] at hCP
 have hRd : R.data.toList = Lib.trimPrefix l [91, 91] := by rw [hR]
 have hRl : R.size ≤ t.size := by
  have h6 : R.data.toList.length = R.size := by simp
  rw [← h6, hRd]
  unfold Lib.trimPrefix
  split
  ·rw [List.length_drop]; omega
  ·omega
 have hgl := hP.lt
 have hBg := hP.le
 obtain ⟨mv, hmv⟩ := hmx
 have hCU := fun W (hW : W.cell? ⟨0, 0, none⟩ = some (.int .i64 mv)) => Tryz.strings_Cut R ⟨#[93, 93]⟩ mv W (by omega) hW
 rw [e2] at hCU
 obtain ⟨C3, hC3⟩ : ∃ C3, C3 = Lib.cut R.data.toList [93, 93] := ⟨_, rfl⟩
 obtain ⟨X, hX⟩ : ∃ X : ByteArray, X = ⟨C3.1.toArray⟩ := ⟨_, rfl⟩
 rw [← hC3, ← hX] at hCU
 have hXd : X.data.toList = C3.1 := by rw [hX]
 have hXl : X.size ≤ R.size := by
  have h6 : X.data.toList.length = X.size := by simp
  have h7 : R.data.toList.length = R.size := by simp
  rw [← h6, ← h7, hXd, hC3]
  unfold Lib.cut
  split
  ·rw [List.length_take]; omega
  ·exact Nat.le_refl _
 have hK1 := fun W (hW : W.cell? ⟨0, 0, none⟩ = some (.int .i64 mv)) => Tryz.strings_Contains X ⟨#[91, 91]⟩ mv W (by omega) hW
 have hK2 := fun W (hW : W.cell? ⟨0, 0, none⟩ = some (.int .i64 mv)) => Tryz.strings_Contains X ⟨#[10]⟩ mv W (by omega) hW
 rw [e1, hXd, contains_eq] at hK1
 rw [e3, hXd, contains_nl] at hK2
 have hML : 0 < w.heap.size := World.block_lt_of_cell? w ⟨0, 0, none⟩ hmv
 obtain ⟨b4, hb4⟩ : ∃ b4, b4 = decide (Lib.index C3.1 [91, 91] ≠ -1) := ⟨_, rfl⟩
 obtain ⟨b5, hb5⟩ : ∃ b5, b5 = decide (10 ∈ C3.1) := ⟨_, rfl⟩
 rw [← hb4] at hK1
 rw [← hb5] at hK2
 obtain ⟨b3, hb3⟩ : ∃ b3, b3 = (!b1 || !C3.2.2 || b4 || b5) := ⟨_, rfl⟩
 have hnone : b3 = true → linkE read l = none := fun h => by
  rw [hb3] at h
  unfold linkE
  cases b1 with
  | false => rw [← hb1]; rfl
  | true =>
    rw [if_pos hb1.symm]
    have hr : R.data.toList = l.drop 2 := by rw [hRd, trimPrefix_drop hb1.symm]; rfl
    rw [← hr]
    by_cases hi : Lib.index R.data.toList [93, 93] = -1
    ·rw [if_pos hi]
    ·rw [if_neg hi]
     have hge := Lib.index_ge R.data.toList [93, 93]
     have hc3 : C3 = (R.data.toList.take (Lib.index R.data.toList [93, 93]).toNat, R.data.toList.drop ((Lib.index R.data.toList [93, 93]).toNat + 2), true) := by rw [hC3]; unfold Lib.cut; rw [if_pos (by omega)]; rfl
     have h1 : C3.1 = R.data.toList.take (Lib.index R.data.toList [93, 93]).toNat := by rw [hc3]
     have h2 : C3.2.2 = true := by rw [hc3]
     rw [h2] at h
     dsimp only
     rw [← h1, if_pos]
     rw [hb4, hb5] at h
     simpa using h
 have hsome : b3 = false → linkE read l = (linkC read C3.1).map fun x => (x, C3.1.length + 4) := fun h => by
  rw [hb3] at h
  cases b1 with
  | false => cases h
  | true =>
    have hr : R.data.toList = l.drop 2 := by rw [hRd, trimPrefix_drop hb1.symm]; rfl
    unfold linkE
    rw [if_pos hb1.symm, ← hr]
    by_cases hi : Lib.index R.data.toList [93, 93] = -1
    ·have : C3.2.2 = false := by rw [hC3]; unfold Lib.cut; rw [if_neg (by omega)]
     rw [this] at h; cases h
    ·rw [if_neg hi]
     have hge := Lib.index_ge R.data.toList [93, 93]
     have hc3 : C3 = (R.data.toList.take (Lib.index R.data.toList [93, 93]).toNat, R.data.toList.drop ((Lib.index R.data.toList [93, 93]).toNat + 2), true) := by rw [hC3]; unfold Lib.cut; rw [if_pos (by omega)]; rfl
     have h1 : C3.1 = R.data.toList.take (Lib.index R.data.toList [93, 93]).toNat := by rw [hc3]
     have h2 : C3.2.2 = true := by rw [hc3]
     rw [h2, hb4, hb5] at h
     dsimp only
     rw [← h1, if_neg]
     simpa using h
 have hXR : b3 = false → X.size + 4 ≤ t.size := fun h => by
  have h6 : X.data.toList.length = X.size := by simp
  have h8 := linkE_len (P := fun _ => .nil) (l := l) (x := none) (n := 0)
  rw [hb3] at h
  cases b1 with
  | false => cases h
  | true =>
    have hp := hp_le hb1.symm
    have hr : R.data.toList = l.drop 2 := by rw [hRd, trimPrefix_drop hb1.symm]; rfl
    by_cases hi : Lib.index R.data.toList [93, 93] = -1
    ·have : C3.2.2 = false := by rw [hC3]; unfold Lib.cut; rw [if_neg (by omega)]
     rw [this] at h; cases h
    ·obtain ⟨j, hj, hjl⟩ := index_nat hi
     have h1 : C3.1 = R.data.toList.take j := by rw [hC3]; unfold Lib.cut; rw [if_pos (by omega), hj]; rfl
     rw [← h6, hXd, h1, List.length_take]
     rw [hr, List.length_drop] at hjl ⊢
     simp only [List.length_cons, List.length_nil] at hjl hp
     omega
 obtain ⟨c, hc⟩ : ∃ c, c = C3.1 := ⟨_, rfl⟩
 rw [← hc] at hsome hXd
 obtain ⟨cl, hcl⟩ : ∃ cl, cl = C3.2.2 := ⟨_, rfl⟩
 rw [← hcl] at hb3 hCU
 have HCP := Lib.hid hCP
 have HCU := Lib.hid hCU
 have HK1 := Lib.hid hK1
 have HK2 := Lib.hid hK2
 have HNONE := Lib.hid hnone
 have HSOME := Lib.hid hsome
 have HXR := Lib.hid hXR
 have HB3 := Lib.hid hb3
 have HXD := Lib.hid hXd
 have HPP := Lib.hid hP
 have HMV := Lib.hid hmv
 have IH := Lib.hid ih
 clear hCP hCU hK1 hK2 hnone hsome hXR hb1 hb3 hb4 hb5 hXd hX hC3 hR hRd e1 e2 e3 hl hc hcl hP hmv ih
 go_enter Tryz.func126, Tryz.ntmps126
 go_wp2_with fail
 refine (HCP.out _).mono ?_
 rintro e w1 ⟨rfl, rfl⟩
 go_wp2_with fail
 refine (HCU.out _ HMV.out).mono ?_
 rintro e w2 ⟨rfl, nd, hw2⟩
 have hb2 := below_drewN (Below.refl w1.heap.size w1) nd
 rw [← hw2] at hb2
 have HMV2 := Lib.hid ((hb2.cell (p := ⟨0, 0, none⟩) hML).trans HMV.out)
 have HB2 := Lib.hid hb2
 clear hw2 hb2 nd
 go_upto_region 3 with fail
 go_cut [43] from 30 to 43 (fun s43 wc => s43 = .bool b3 ∧ w2 = wc)
 case first =>
  cases b1 with
  | false =>
    go_wp2_with fail
    go_meet
    case rel => exact ⟨by rw [HB3.out]; rfl, by first | rfl | trivial⟩
  | true =>
    cases cl with
    | false =>
      go_wp2_with fail
      go_meet
      case rel => exact ⟨by rw [HB3.out]; rfl, by first | rfl | trivial⟩
    | true =>
      cases b4 with
      | true =>
        go_wp2_with fail
        refine (HK1.out _ HMV2.out).mono ?_
        rintro e w3 ⟨rfl, rfl⟩
        go_wp2_with fail
        go_meet
        case rel => exact ⟨by rw [HB3.out]; rfl, by first | rfl | trivial⟩
      | false =>
        cases b5 with
        | true =>
          go_wp2_with fail
          refine (HK1.out _ HMV2.out).mono ?_
          rintro e w3 ⟨rfl, rfl⟩
          go_wp2_with fail
          refine (HK2.out _ HMV2.out).mono ?_
          rintro e w4 ⟨rfl, rfl⟩
          go_wp2_with fail
          go_meet
          case rel => exact ⟨by rw [HB3.out]; rfl, by first | rfl | trivial⟩
        | false =>
          go_wp2_with fail
          refine (HK1.out _ HMV2.out).mono ?_
          rintro e w3 ⟨rfl, rfl⟩
          go_wp2_with fail
          refine (HK2.out _ HMV2.out).mono ?_
          rintro e w4 ⟨rfl, rfl⟩
          go_wp2_with fail
          go_meet
          case rel => exact ⟨by rw [HB3.out]; rfl, by first | rfl | trivial⟩
 case rest =>
  obtain ⟨rfl, rfl⟩ := hcut
  cases b3 with
  | true =>
    have HV := Lib.hid (HNONE.out (by first | rfl | trivial))
    have HT := Lib.hid (PTurn.of_below HPP.out HB2.out)
    go_wp2_with fail
    go_ret
    rw [HV.out]
    exact ⟨rfl, HT.out⟩
  | false =>
    have hv := HSOME.out (by first | rfl | trivial)
    have hxr := HXR.out (by first | rfl | trivial)
    have HLK := Lib.hid hv
    clear hv HNONE HSOME HXR HB3 HK1 HK2 HCP HCU
    have f1 : (⟨#[124]⟩ : ByteArray).data.toList = [124] := rfl
    have f2 : (⟨#[35]⟩ : ByteArray).data.toList = [35] := rfl
    have hC1 := Tryz.strings_Cut X ⟨#[124]⟩ mv w2 (by omega) HMV2.out
    rw [f1, HXD.out, cut_bef] at hC1
    obtain ⟨T, hT⟩ : ∃ T : ByteArray, T = ⟨(bef 124 c).toArray⟩ := ⟨_, rfl⟩
    have hTd : T.data.toList = bef 124 c := by rw [hT]
    have hTl : T.size ≤ X.size := by
     have h6 : T.data.toList.length = T.size := by simp
     have h7 : X.data.toList.length = X.size := by simp
     rw [← h6, ← h7, hTd, HXD.out]
     exact bef_le _ _
    obtain ⟨L0, hL0⟩ : ∃ L0 : ByteArray, L0 = ⟨(if has 124 c then aftr 124 c else []).toArray⟩ := ⟨_, rfl⟩
    obtain ⟨bd, hbd⟩ : ∃ bd, bd = has 124 c := ⟨_, rfl⟩
    have hC1 : Calls Tryz.prog 146 #[.string X, .string ⟨#[124]⟩] w2 fun e w' => e = .returned (.tuple #[.string T, .string L0, .bool bd]) ∧ ∃ n, w' = w2.drewN n := by
     rw [hT, hL0, hbd]; exact hC1
    have hC2 := fun W (hW : W.cell? ⟨0, 0, none⟩ = some (.int .i64 mv)) => Tryz.strings_Cut T ⟨#[35]⟩ mv W (by omega) hW
    rw [f2, hTd, cut_bef] at hC2
    obtain ⟨Nm, hNm⟩ : ∃ Nm : ByteArray, Nm = ⟨(lname c).toArray⟩ := ⟨_, rfl⟩
    have hNd : Nm.data.toList = lname c := by rw [hNm]
    have hNl : Nm.size ≤ T.size := by
     have h6 : Nm.data.toList.length = Nm.size := by simp
     have h7 : T.data.toList.length = T.size := by simp
     rw [← h6, ← h7, hTd, hNd]
     exact bef_le _ _
    obtain ⟨A0, hA0⟩ : ∃ A0 : ByteArray, A0 = ⟨(if has 35 (bef 124 c) then aftr 35 (bef 124 c) else []).toArray⟩ := ⟨_, rfl⟩
    have hA0l : A0.size ≤ T.size := by
     have h6 : A0.data.toList.length = A0.size := by simp
     have h7 : T.data.toList.length = T.size := by simp
     rw [← h6, ← h7, hTd, hA0]
     show (if has 35 (bef 124 c) then aftr 35 (bef 124 c) else []).length ≤ _
     split
     ·exact aftr_le _ _
     ·exact Nat.zero_le _
    have hC2 : ∀ W, W.cell? ⟨0, 0, none⟩ = some (.int .i64 mv) → Calls Tryz.prog 146 #[.string T, .string ⟨#[35]⟩] W fun e w' => e = .returned (.tuple #[.string Nm, .string A0, .bool (has 35 (bef 124 c))]) ∧ ∃ n, w' = W.drewN n := fun W hW => by
     rw [hNm, hA0]; exact hC2 W hW
    obtain ⟨An, hAn⟩ : ∃ An : ByteArray, An = ⟨(lanchor c).toArray⟩ := ⟨_, rfl⟩
    have hAd : An.data.toList = lanchor c := by rw [hAn]
    have hST : ∀ W, Calls Tryz.prog 95 #[.string A0] W fun e w' => e = .returned (.string An) ∧ Below W.heap.size W w' := fun W => by
     have h := pstrim_any A0 W (by omega)
     have e : trimW ws4 A0.data.toList = lanchor c := by
      rw [hA0]
      show trimW ws4 (if has 35 (bef 124 c) then aftr 35 (bef 124 c) else []) = _
      unfold lanchor
      split
      ·rfl
      ·rfl
     rw [e, ← hAn] at h
     exact h
    obtain ⟨b35, hb35⟩ : ∃ b35, b35 = has 35 (bef 124 c) := ⟨_, rfl⟩
    rw [← hb35] at hC2
    have HC1 := Lib.hid hC1
    have HC2 := Lib.hid hC2
    have HST := Lib.hid hST
    have HTD := Lib.hid hTd
    have HND := Lib.hid hNd
    have HAD := Lib.hid hAd
    have HL0 := Lib.hid hL0
    have HBD := Lib.hid hbd
    clear hC1 hC2 hST hTd hNd hAd hL0 hbd hT hNm hA0 hAn hb35 f1 f2
    go_wp2_with fail
    refine HC1.out.mono ?_
    rintro e w3 ⟨rfl, n3, hw3⟩
    have hb3 := below_drewN (Below.refl w2.heap.size w2) n3
    rw [← hw3] at hb3
    have HMV3 := Lib.hid ((hb3.cell (p := ⟨0, 0, none⟩) (show 0 < w2.heap.size by have := HB2.out.size; omega)).trans HMV2.out)
    have HB3 := Lib.hid (below_then HB2.out hb3)
    clear hw3 hb3 n3
    go_wp2_with fail
    refine (HC2.out _ HMV3.out).mono ?_
    rintro e w4 ⟨rfl, n4, hw4⟩
    have hb4 := below_drewN (Below.refl w3.heap.size w3) n4
    rw [← hw4] at hb4
    have HMV4 := Lib.hid ((hb4.cell (p := ⟨0, 0, none⟩) (show 0 < w3.heap.size by have := HB3.out.size; omega)).trans HMV3.out)
    have HB4 := Lib.hid (below_then HB3.out hb4)
    clear hw4 hb4 n4
    go_wp2_with fail
    refine (HST.out _).mono ?_
    rintro e w5 ⟨rfl, hb5⟩
    have HMV5 := Lib.hid ((hb5.cell (p := ⟨0, 0, none⟩) (show 0 < w4.heap.size by have := HB4.out.size; omega)).trans HMV4.out)
    have HB5 := Lib.hid (below_then HB4.out hb5)
    clear hb5
    go_upto_region 8 with fail
    have hK6 := Known.made w5 56 #[.int .i64 4, .string ⟨#[]⟩, .int .i64 0, .string ⟨#[]⟩, .string An, .slice none 0 0]
    have hb6 := below_new0 w5 (.cells #[.int .i64 4, .string ⟨#[]⟩, .int .i64 0, .string ⟨#[]⟩, .string An, .slice none 0 0] 56)
    have hz5 := HB5.out.size
    obtain ⟨rx, hrx⟩ : ∃ rx, rx = w5.heap.size := ⟨_, rfl⟩
    rw [← hrx] at hK6 ⊢
    have hrw : w1.heap.size ≤ rx := by omega
    have HMV6 := Lib.hid ((hb6.cell (p := ⟨0, 0, none⟩) (show 0 < w5.heap.size by omega)).trans HMV5.out)
    have HB6 := Lib.hid (below_then HB5.out hb6)
    generalize w5.alloc (.cells #[.int .i64 4, .string ⟨#[]⟩, .int .i64 0, .string ⟨#[]⟩, .string An, .slice none 0 0] 56) = w6 at hK6 hb6 HMV6 HB6 ⊢
    have HK6 := Lib.hid hK6
    clear hK6 hb6 hrx HMV2 HMV3 HMV4 HMV5 HB2 HB3 HB4 HB5 HC1 HC2 HST hz5
    have hED := fun W => ptrim_bl3 Nm W (by omega)
    rw [HND.out] at hED
    obtain ⟨Ed, hEd⟩ : ∃ Ed : ByteArray, Ed = ⟨(trimW bl3 (lname c)).toArray⟩ := ⟨_, rfl⟩
    rw [← hEd] at hED
    have hEdd : Ed.data.toList = trimW bl3 (lname c) := by rw [hEd]
    have hte := trim_empty (lname c)
    obtain ⟨b17, hb17⟩ : ∃ b17, b17 = ((lname c).any (fun x => !(bl3 x)) || decide (lanchor c = [])) := ⟨_, rfl⟩
    obtain ⟨ba, hba⟩ : ∃ ba, ba = (An.toList.isEmpty) := ⟨_, rfl⟩
    have hba2 : ba = decide (lanchor c = []) := by
     rw [hba, ← HAD.out]
     by_cases h : An.data.toList = []
     ·rw [empty_yes h, decide_eq_true h]
     ·rw [empty_no h, decide_eq_false h]
    have hbe : Ed.toList.isEmpty = !((lname c).any (fun x => !(bl3 x))) := by
     by_cases h : Ed.data.toList = []
     ·rw [empty_yes h]
      rw [hEdd, hte] at h
      rw [h]; rfl
     ·rw [empty_no h]
      rw [hEdd, hte] at h
      simp at h
      simp [h]
    obtain ⟨be, hbee⟩ : ∃ be, be = (lname c).any (fun x => !(bl3 x)) := ⟨_, rfl⟩
    rw [← hbee] at hbe
    have hbv : b17 = (be || ba) := by rw [hb17, hbee, hba2]
    have HB17 := Lib.hid hb17
    have HB17V := Lib.hid hbv
    have HED := Lib.hid hED
    replace hba := hba.symm
    obtain ⟨k0, k1, k2, k3, k4, k5⟩ := HK6.out.six
    have kl6 := HK6.out.lt
    clear hED hEd hEdd hte hb17 hba2 hbee hbv
    go_cut [66] from 59 to 66 (fun s66 wc => s66 = .bool b17 ∧ Below w6.heap.size w6 wc)
    case first =>
     cases be with
     | true =>
       have hbe : Ed.toList.isEmpty = false := hbe
       go_wp2_with fail
       refine (HED.out _).mono ?_
       rintro e w7 ⟨rfl, hb7⟩
       go_wp2_with fail
       go_meet
       case rel => exact ⟨by rw [HB17V.out]; rfl, hb7⟩
     | false =>
       have hbe : Ed.toList.isEmpty = true := hbe
       go_wp2_with fail
       refine (HED.out _).mono ?_
       rintro e w7 ⟨rfl, hb7⟩
       have k4 := (hb7.cell (p := ⟨rx, 4, none⟩) kl6).trans k4
       have HB7 := Lib.hid hb7
       clear hb7
       go_wp2_with fail
       go_meet
       case rel => exact ⟨by rw [HB17V.out]; rfl, HB7.out⟩
    case rest =>
     obtain ⟨rfl, hb7⟩ := hcut
     obtain ⟨w7, hw7⟩ : ∃ w7, w7 = wc := ⟨_, rfl⟩
     subst hw7
     have HK7 := Lib.hid (HK6.out.on hb7)
     have hz6 := HB6.out.size
     have HMV7 := Lib.hid ((hb7.cell (p := ⟨0, 0, none⟩) (show 0 < w6.heap.size by omega)).trans HMV6.out)
     have HB7 := Lib.hid (below_then HB6.out hb7)
     have hz7 := hb7.size
     clear hb7 hba hbe HED HB17V k0 k1 k2 k3 k4 k5 kl6 HMV6 HK6 HB6
     go_upto_if 66 with fail
     go_cut [17, 18] from 67 to 88 (fun s17 s18 wc => ∃ (sp : Int) (nm : ByteArray), Known wc rx 56 #[.int .i64 4, .string ⟨#[]⟩, .int .i64 sp, .string nm, .string An, .slice none 0 0] ∧ Below w1.heap.size w1 wc ∧ linkC read c = some (some (.cons 4 ⟨#[]⟩ sp nm An (read (label c)) .nil)))
     case first =>
      have hAe : (⟨(lanchor c).toArray⟩ : ByteArray) = An := bytes_ext (by rw [HAD.out])
      cases b17 with
      | false =>
        have hlc : linkC read c = some (some (.cons 4 ⟨#[]⟩ 0 ⟨#[]⟩ An (read (label c)) .nil)) := by
         unfold linkC
         rw [if_neg (by rw [← HB17.out]; simp), hAe]
        have HLC := Lib.hid hlc
        clear hlc hAe
        go_wp2_with fail
        go_meet
        case rel => exact ⟨0, ⟨#[]⟩, HK7.out, HB7.out, HLC.out⟩
      | true =>
        have hlk0 : linkC read c = if (parse (lname c)).2.2 ≠ 0 then none
          else if (parse (lname c)).1 = 4 ∧ ((lname c).dropWhile bl3).head? ≠ some 58 then some none
          else some (some (.cons 4 ⟨#[]⟩ (parse (lname c)).1 ⟨(parse (lname c)).2.1.toArray⟩ ⟨(lanchor c).toArray⟩ (read (label c)) .nil)) := by
         unfold linkC
         rw [if_pos (by rw [← HB17.out])]
        rw [hAe] at hlk0
        have hPA := tparse_any Nm w7 (by omega) ⟨mv, HMV7.out⟩
        rw [HND.out] at hPA
        obtain ⟨sp, hsp⟩ : ∃ sp : Int, sp = ((parse (lname c)).1 : Int) := ⟨_, rfl⟩
        obtain ⟨nm, hnm⟩ : ∃ nm : ByteArray, nm = ⟨(parse (lname c)).2.1.toArray⟩ := ⟨_, rfl⟩
        obtain ⟨G, hG⟩ : ∃ G, G = (parse (lname c)).2.2 := ⟨_, rfl⟩
        rw [← hsp, ← hnm, ← hG] at hPA
        rw [← hsp, ← hnm, ← hG] at hlk0
        have hsp4 : (parse (lname c)).1 = 4 ↔ sp = 4 := by omega
        simp only [hsp4] at hlk0
        have HPA := Lib.hid hPA
        have HLK0 := Lib.hid hlk0
        clear hlk0 hAe hPA hsp hnm hG hsp4
        by_cases hg : G = 0
        ·have g5 : ((G : Int) != 0) = false := by simp; omega
         have hlk0 := HLK0.out
         rw [if_neg (by omega)] at hlk0
         have hTL := fun W => ptrimleft_bl3 Nm W (by omega)
         obtain ⟨Dw, hDw⟩ : ∃ Dw : ByteArray, Dw = ⟨((lname c).dropWhile bl3).toArray⟩ := ⟨_, rfl⟩
         rw [HND.out, ← hDw] at hTL
         have hHP := fun W => Tryz.strings_HasPrefix Dw ⟨#[58]⟩ W
         have e58 : (⟨#[58]⟩ : ByteArray).data.toList = [58] := rfl
         have hDd : Dw.data.toList = (lname c).dropWhile bl3 := by rw [hDw]
         rw [e58, hp_one, hDd] at hHP
         obtain ⟨b8, hb8⟩ : ∃ b8, b8 = decide (((lname c).dropWhile bl3).head? = some 58) := ⟨_, rfl⟩
         rw [← hb8] at hHP
         have HTL := Lib.hid hTL
         have HHP := Lib.hid hHP
         have HB8 := Lib.hid hb8
         have HLK1 := Lib.hid hlk0
         clear hlk0 hTL hHP hDw hDd hb8 e58 HLK0 hg
         go_wp2_with fail
         refine HPA.out.mono ?_
         rintro e w8 ⟨rfl, hb8⟩
         have hk8 := (HK7.out.on hb8).alloc (.cells #[.int .i64 sp, .string nm] 54)
         have hkt := Known.made w8 54 #[.int .i64 sp, .string nm]
         have HK8W := Lib.hid (HK7.out.on hb8)
         have HB8W := Lib.hid (below_then HB7.out hb8)
         have hz8 := hb8.size
         have hxl8 := (HK7.out.on hb8).lt
         have HB9 := Lib.hid (below_then (below_then HB7.out hb8) (below_new0 w8 (.cells #[.int .i64 sp, .string nm] 54)))
         have hrne : rx ≠ w8.heap.size := by omega
         have HK8 := Lib.hid hk8
         have HKT := Lib.hid hkt
         clear hb8 hk8 hkt
         by_cases h4 : sp = 4
         ·have g6 : (sp == 4) = true := by simpa using h4
          obtain ⟨t0, t1⟩ := HKT.out.two
          have tl := HKT.out.lt
          have H4 := Lib.hid h4
          clear h4
          go_wp2_with fail
          refine (HTL.out _).mono ?_
          rintro e w9 ⟨rfl, hb9⟩
          have hk9 := HK8.out.on hb9
          have hkt9 := HKT.out.on hb9
          have HB10 := Lib.hid (below_then HB9.out hb9)
          obtain ⟨t0, t1⟩ := hkt9.two
          have tl9 := hkt9.lt
          obtain ⟨x0, x1, x2, x3, x4, x5⟩ := hk9.six
          have xf2 := hk9.free 2
          have xf3 := hk9.free 3
          have xl9 := hk9.lt
          have HK9 := Lib.hid hk9
          clear hb9 hk9 hkt9
          go_wp2_with fail
          refine (HHP.out _).mono ?_
          rintro e w10 ⟨rfl, rfl⟩
          cases b8 with
          | true =>
            have h58 : ((lname c).dropWhile bl3).head? = some 58 := by simpa using HB8.out.symm
            have hlc : linkC read c = some (some (.cons 4 ⟨#[]⟩ sp nm An (read (label c)) .nil)) := by rw [HLK1.out, if_neg (fun h => h.2 h58)]
            have HLC := Lib.hid hlc
            clear hlc h58
            go_wp2_with fail
            go_meet
            case rel => exact ⟨sp, nm, (HK9.out.put 2 (.int .i64 sp)).put 3 (.string nm), (HB10.out.setCell (p := ⟨rx, 2, none⟩) hrw _).setCell (p := ⟨rx, 3, none⟩) hrw _, HLC.out⟩
          | false =>
            have h58 : ¬ ((lname c).dropWhile bl3).head? = some 58 := by simpa using HB8.out.symm
            have hv : linkE read l = some (none, c.length + 4) := by rw [HLK.out, HLK1.out, if_pos ⟨H4.out, h58⟩]; rfl
            have HV := Lib.hid hv
            have HT := Lib.hid (PTurn.of_below HPP.out HB10.out)
            have HXS : Hid (X.size = c.length) := Lib.hid (by rw [← HXD.out]; simp)
            clear hv h58
            go_wp2_with fail
            go_ret
            rw [HV.out]
            exact ⟨by rw [← HXS.out]; rfl, HT.out⟩
         ·have g6 : (sp == 4) = false := by simpa using h4
          have hlc : linkC read c = some (some (.cons 4 ⟨#[]⟩ sp nm An (read (label c)) .nil)) := by rw [HLK1.out, if_neg (fun h => h4 h.1)]
          have HLC := Lib.hid hlc
          obtain ⟨t0, t1⟩ := HKT.out.two
          have tl := HKT.out.lt
          obtain ⟨x0, x1, x2, x3, x4, x5⟩ := HK8W.out.six
          have xf2 := HK8W.out.free 2
          have xf3 := HK8W.out.free 3
          have xl9 := HK8W.out.lt
          clear hlc h4
          go_wp2_with fail
          go_meet
          case rel => exact ⟨sp, nm, ((HK8W.out.put 2 (.int .i64 sp)).put 3 (.string nm)).alloc _, below_then ((HB8W.out.setCell (p := ⟨rx, 2, none⟩) hrw _).setCell (p := ⟨rx, 3, none⟩) hrw _) (below_new0 _ _), HLC.out⟩
        ·have g5 : ((G : Int) != 0) = true := by simp; omega
         have hlk0 := HLK0.out
         rw [if_pos hg] at hlk0
         have hv : linkE read l = none := by rw [HLK.out, hlk0]; rfl
         have HV := Lib.hid hv
         clear hlk0 hv HLK0 hg
         go_wp2_with fail
         refine HPA.out.mono ?_
         rintro e w8 ⟨rfl, hb8⟩
         have HT := Lib.hid (PTurn.of_below HPP.out (below_then (below_then HB7.out hb8) (below_new0 w8 (.cells #[.int .i64 sp, .string nm] 54))))
         clear hb8
         go_wp2_with fail
         go_ret
         rw [HV.out]
         exact ⟨rfl, HT.out⟩
     case rest =>
      obtain ⟨sp, nm, hk9, hb9, hlc⟩ := hcut
      have hv : linkE read l = some (some (.cons 4 ⟨#[]⟩ sp nm An (read (label c)) .nil), c.length + 4) := by rw [HLK.out, hlc]; rfl
      have hMVc := (hb9.cell (p := ⟨0, 0, none⟩) hML).trans HMV.out
      obtain ⟨Lb, hLb⟩ : ∃ Lb : ByteArray, Lb = ⟨(label c).toArray⟩ := ⟨_, rfl⟩
      have hLbd : Lb.data.toList = label c := by rw [hLb]
      have hLz : Lb.size < t.size := by
       have h1 : Lb.data.toList.length = Lb.size := by simp
       have h2 : X.data.toList.length = X.size := by simp
       have h3 := label_le c
       rw [hLbd] at h1
       rw [HXD.out] at h2
       omega
      have hdiv : bd = true → L0 = Lb := fun h => bytes_ext (by
       rw [hLbd, HL0.out]
       show (if has 124 c then aftr 124 c else []) = _
       unfold label
       rw [← HBD.out, h]; rfl)
      have htp : bd = false → Lib.trimPrefix (bef 124 c) [58] = label c := fun h => by
       unfold label
       rw [← HBD.out, h]
       unfold Lib.trimPrefix
       rw [hp_one]
       by_cases h5 : (bef 124 c).head? = some 58
       ·rw [decide_eq_true h5, if_pos rfl, if_neg (by simp), if_pos h5]
        exact List.drop_one
       ·rw [decide_eq_false h5, if_neg (by simp), if_neg (by simp), if_neg h5]
      have hTP := fun W => Tryz.strings_TrimPrefix T ⟨#[58]⟩ W
      have e58 : (⟨#[58]⟩ : ByteArray).data.toList = [58] := rfl
      rw [e58, HTD.out] at hTP
      have hPP2 := fun W (hW : MX W) => IH.out Lb W (by omega) (by omega) hW
      simp only [hLbd] at hPP2
      obtain ⟨M, hM⟩ : ∃ M, M = (read (label c)).len := ⟨_, rfl⟩
      simp only [← hM] at hPP2
      have HV := Lib.hid hv
      have HK9 := Lib.hid hk9
      have HB9 := Lib.hid hb9
      have HMVc := Lib.hid hMVc
      have HLB := Lib.hid hLb
      have HDIV := Lib.hid hdiv
      have HTP := Lib.hid hTP
      have HTPV := Lib.hid htp
      have HPA := Lib.hid hPP2
      clear hv hk9 hb9 hlc hMVc hLb hLbd hdiv htp hTP hPP2 hM e58 HK7 HB7 HMV7 HLK HB17
      go_upto_if 89 with fail
      go_cut [11] from 90 to 91 (fun s11 wd => s11 = .string Lb ∧ wc = wd)
      case first =>
       cases bd with
       | true =>
         have HL := Lib.hid (HDIV.out (by first | rfl | trivial))
         go_wp2_with fail
         go_meet
         case rel => exact ⟨by rw [← HL.out], by first | rfl | trivial⟩
       | false =>
         have HL := Lib.hid (HTPV.out (by first | rfl | trivial))
         go_wp2_with fail
         refine (HTP.out _).mono ?_
         rintro e w10 ⟨rfl, rfl⟩
         go_wp2_with fail
         go_meet
         case rel => exact ⟨by rw [HL.out, HLB.out], by first | rfl | trivial⟩
      case rest =>
       obtain ⟨rfl, hwd⟩ := hcut
       subst hwd
       go_wp2_with fail
       refine (HPA.out _ ⟨mv, HMVc.out⟩).mono ?_
       rintro e w11 ⟨p, cc, rfl, hsl, hb11⟩
       have hk11 := HK9.out.on hb11
       obtain ⟨x0, x1, x2, x3, x4, x5⟩ := hk11.six
       have xf5 := hk11.free 5
       have xl := hk11.lt
       have hlt9 := HK9.out.lt
       have hbz := HB9.out.size
       have hbel := (below_then HB9.out hb11).setCell (p := ⟨rx, 5, none⟩) hrw (.slice p M cc)
       have hfr := HPP.out.fresh hbel
       have hsl2 := insS.sl_on (insS.sl_on hsl (Kept.put (g := rx) (fun k hk => by
        have hk : _ ≤ k := hk
        omega) 5 (.slice p M cc))) (Kept.mono (q' := fun k => D k ∧ k < w1.heap.size ∨ w1.heap.size ≤ k) fun k hk _ => .inr (Nat.le_trans hbz hk))
       have hkp : Kept D (fun k => D k ∧ k < w1.heap.size ∨ w1.heap.size ≤ k) w1 (w11.setCell ⟨rx, 5, none⟩ (.slice p M cc)) := fun j hj hl => ⟨.inl ⟨hj, hl⟩, hbel.block j hl⟩
       have hC := padd_p B g _ s _ 4 ⟨#[]⟩ sp nm An p M cc (read (label c)) hfr hsl2 hm
       have HC := Lib.hid hC
       have HKP := Lib.hid hkp
       have HBL := Lib.hid (hbel.mono (show B ≤ w1.heap.size by omega))
       have HXS : Hid (X.size = c.length) := Lib.hid (by rw [← HXD.out]; simp)
       clear hsl hb11 hk11 hbel hfr hsl2 hkp hC
       go_wp2_with fail
       refine HC.out.mono ?_
       rintro e w12 ⟨rfl, hT⟩
       have HT := Lib.hid (PTurn.after HKP.out HBL.out hT)
       clear hT
       go_wp2_with fail
       go_ret
       rw [HV.out]
       exact ⟨by rw [← HXS.out]; rfl, HT.out⟩
end Go.Proofs.YthieinfonomeeaaGreatDoor
namespace Go.Proofs.YthieinfonomeeaaGreatDoor
open Go.RowKit Doc Tit Inl
set_option linter.unusedVariables false
attribute [local go_sem ↓] Go.wp_at_zero Go.wp_at_succ
def PNote (B g : Nat) (w w' : World) (s : S) (D : Nat → Prop) (e : Ending) : Option (Ins × Nat) → Prop
 | none => e = .returned (.int .i64 0) ∧ PTurn B g w w' s D
 | some (x, n) => e = .returned (.int .i64 n) ∧ PTurn B g w w' (s.add x) D
set_option maxRecDepth 20000 in
set_option maxHeartbeats 8000000 in
theorem pnote_any (N : Nat) (ih : PParse N) (B g : Nat) (w : World) (s : S) (D : Nat → Prop) (t : ByteArray) (hP : PP B g w s D) (hmx : MX w) (hs : t.size ≤ 100000000) (hN : t.size ≤ N) (hm : s.m + 1 ≤ 1000000000) :
  Calls Tryz.prog 128 #[.pointer (some ⟨g, 0, none⟩), .string t] w fun e w' => PNote B g w w' s D e (noteE read t.data.toList) := by
 have hz : t.data.toList.length = t.size := by simp
 obtain ⟨l, hl⟩ : ∃ l, l = t.data.toList := ⟨_, rfl⟩
 have e0 : ∀ x : List UInt8, (⟨x.toArray⟩ : ByteArray).data.toList = x := fun _ => rfl
 have hA := fun W => Tryz.strings_HasPrefix t ⟨bRefG.toArray⟩ W
 have hCP := fun W => Tryz.strings_CutPrefix t ⟨bRefN.toArray⟩ W
 rw [e0, ← hl] at hA hCP
 rw [← hl] at hz ⊢
 obtain ⟨b1, hb1⟩ : ∃ b, b = Lib.hasPrefix l bRefG := ⟨_, rfl⟩
 obtain ⟨b2, hb2⟩ : ∃ b, b = Lib.hasPrefix l bRefN := ⟨_, rfl⟩
 rw [← hb1] at hA
 obtain ⟨R, hR⟩ : ∃ R : ByteArray, R = ⟨(Lib.trimPrefix l bRefN).toArray⟩ := ⟨_, rfl⟩
 rw [← hb2, ← hR] at hCP
 have hRd0 : R.data.toList = Lib.trimPrefix l bRefN := by rw [hR]
 have hRl : R.size ≤ t.size := by
  have h6 : R.data.toList.length = R.size := by simp
  rw [← h6, hRd0]
  unfold Lib.trimPrefix
  split
  ·rw [List.length_drop]; omega
  ·omega
 have hRd : b2 = true → R.data.toList = l.drop 10 := fun h => by rw [hRd0, trimPrefix_drop (hb2.symm.trans h)]; rfl
 have hv : noteE read l = if b1 then noteC read [] 5 l else if b2 then
   (if (((l.drop 10).takeWhile word).length < 1 ∨ 30 < ((l.drop 10).takeWhile word).length) then none
    else if Lib.hasPrefix ((l.drop 10).drop ((l.drop 10).takeWhile word).length) [47, 62] then some (note ((l.drop 10).takeWhile word) .nil, ((l.drop 10).takeWhile word).length + 12)
    else if ((l.drop 10).drop ((l.drop 10).takeWhile word).length).head? = some 62 then noteC read ((l.drop 10).takeWhile word) (((l.drop 10).takeWhile word).length + 11) l else none) else none := by
  rw [hb1, hb2]; rfl
 have hp1 : b1 = true → 5 ≤ l.length := fun h => by have := hp_le (hb1.symm.trans h); simpa [bRefG] using this
 have hp2 : b2 = true → 10 ≤ l.length := fun h => by have := hp_le (hb2.symm.trans h); simpa [bRefN] using this
 have hRun := fun W => prun_any 150 word R W enters_word pword_any (by omega)
 obtain ⟨k, hk⟩ : ∃ k, k = (R.data.toList.takeWhile word).length := ⟨_, rfl⟩
 rw [← hk] at hRun
 have hkR : k ≤ R.size := by
  have h6 : R.data.toList.length = R.size := by simp
  rw [hk, ← h6]; exact tw_le _ _
 obtain ⟨mv, hmv⟩ := hmx
 have hML : 0 < w.heap.size := World.block_lt_of_cell? w ⟨0, 0, none⟩ hmv
 have hgl := hP.lt
 have hBg := hP.le
 have HA := Lib.hid hA
 have HCP := Lib.hid hCP
 have HV := Lib.hid hv
 have HP1 := Lib.hid hp1
 have HP2 := Lib.hid hp2
 have HRD := Lib.hid hRd
 have HRUN := Lib.hid hRun
 have HK := Lib.hid hk
 have HL := Lib.hid hl
 have HZ := Lib.hid hz
 have HPP := Lib.hid hP
 have HMV := Lib.hid hmv
 have IH := Lib.hid ih
 clear hA hCP hb1 hb2 hR hRd0 hRd hv hp1 hp2 hRun hk hl hP hmv ih e0 hz
 go_enter Tryz.func128, Tryz.ntmps128
 go_upto_region 2 with fail
 go_cut [15] from 13 to 15 (fun s15 wc => s15 = .bool (!b1) ∧ w = wc)
 case first =>
  go_wp2_with fail
  refine (HA.out _).mono ?_
  rintro e w1 ⟨rfl, rfl⟩
  go_wp2_with fail
  go_meet
  case rel => exact ⟨by first | rfl | trivial, by first | rfl | trivial⟩
 case rest =>
  obtain ⟨rfl, rfl⟩ := hcut
  go_upto_if 15 with fail
  go_cut [5, 6, 7, 8, 9] from 16 to 54 (fun s5 s6 s7 s8 s9 wc => ∃ (tx : List UInt8) (n : Nat), s5 = .string ⟨tx.toArray⟩ ∧ s6 = .int .i64 (n : Int) ∧ n ≤ t.size ∧ 1 ≤ n ∧ noteE read l = noteC read tx n l ∧ w = wc)
  case first =>
   cases b1 with
   | true =>
     have hv : noteE read l = noteC read [] 5 l := by rw [HV.out, if_pos rfl]
     have h5 := HP1.out (by first | rfl | trivial)
     rw [HZ.out] at h5
     have HV1 := Lib.hid hv
     clear hv
     go_wp2_with fail
     go_meet
     case rel => exact ⟨[], 5, rfl, rfl, h5, by omega, HV1.out, rfl⟩
   | false =>
     cases b2 with
     | false =>
       have HV1 : Hid (noteE read l = none) := Lib.hid (by rw [HV.out]; rfl)
       have HT := Lib.hid (PTurn.of_below HPP.out (Below.refl _ _))
       go_wp2_with fail
       refine (HCP.out _).mono ?_
       rintro e w1 ⟨rfl, rfl⟩
       go_wp2_with fail
       refine (HRUN.out _).mono ?_
       rintro e w1 ⟨rfl, rfl⟩
       go_wp2_with fail
       go_ret
       rw [HV1.out]
       exact ⟨rfl, HT.out⟩
     | true =>
       have hRd := HRD.out (by first | rfl | trivial)
       have h10 := HP2.out (by first | rfl | trivial)
       rw [HZ.out] at h10
       obtain ⟨r, hr⟩ : ∃ r, r = l.drop 10 := ⟨_, rfl⟩
       have hv : noteE read l = if ((r.takeWhile word).length < 1 ∨ 30 < (r.takeWhile word).length) then none
         else if Lib.hasPrefix (r.drop (r.takeWhile word).length) [47, 62] then some (note (r.takeWhile word) .nil, (r.takeWhile word).length + 12)
         else if (r.drop (r.takeWhile word).length).head? = some 62 then noteC read (r.takeWhile word) ((r.takeWhile word).length + 11) l else none := by rw [HV.out, hr]; rfl
       rw [← hr] at hRd
       have hk := HK.out
       rw [hRd] at hk
       obtain ⟨nm, hnm⟩ : ∃ nm, nm = r.takeWhile word := ⟨_, rfl⟩
       rw [← hnm] at hk hv
       rw [← hk] at hv
       have hzr : r.length = R.size := by rw [← hRd]; simp
       have hzr2 : r.length = t.size - 10 := by rw [hr, List.length_drop, HZ.out]
       have hex : (R.extract 0 k).data.toList = nm := by rw [Lib.extract_from_zero, hRd, hnm, hk, hnm, take_tw']
       have hex2 : (R.extract k R.size).data.toList = r.drop k := by rw [Lib.extract_to_end, hRd]
       obtain ⟨Y, hY⟩ : ∃ Y, Y = R.extract k R.size := ⟨_, rfl⟩
       obtain ⟨X, hX⟩ : ∃ X, X = R.extract 0 k := ⟨_, rfl⟩
       rw [← hY] at hex2
       rw [← hX] at hex
       have hXm : X = ⟨nm.toArray⟩ := bytes_ext hex
       have hA3 := fun W => Tryz.strings_HasPrefix Y ⟨#[47, 62]⟩ W
       have hA4 := fun W => Tryz.strings_HasPrefix Y ⟨#[62]⟩ W
       have e3 : (⟨#[47, 62]⟩ : ByteArray).data.toList = [47, 62] := rfl
       have e4 : (⟨#[62]⟩ : ByteArray).data.toList = [62] := rfl
       rw [e3, hex2] at hA3
       rw [e4, hex2, hp_one] at hA4
       have hk1s : (r.drop k).head? = some 62 → k + 11 ≤ t.size := fun h => by
        have : 0 < (r.drop k).length := by
         cases hc : r.drop k with
         | nil => rw [hc] at h; cases h
         | cons a b => simp
        rw [List.length_drop] at this; omega
       obtain ⟨b3, hb3⟩ : ∃ b3, b3 = Lib.hasPrefix (r.drop k) [47, 62] := ⟨_, rfl⟩
       obtain ⟨b4, hb4⟩ : ∃ b4, b4 = decide ((r.drop k).head? = some 62) := ⟨_, rfl⟩
       rw [← hb3] at hA3 hv
       rw [← hb4] at hA4
       have HA3 := Lib.hid hA3
       have HA4 := Lib.hid hA4
       have HVV := Lib.hid hv
       have HB4 := Lib.hid hb4
       have HKS := Lib.hid hk1s
       have HX := Lib.hid hX
       have HY := Lib.hid hY
       have HXM := Lib.hid hXm
       clear hRd hr hv hk hnm hzr hzr2 hex hex2 hY hX hXm hA3 hA4 e3 e4 hk1s hb3 hb4 HV HRD HK HL HP1 HP2 HA
       have j1 : (k : Int) ≤ (R.size : Int) := by omega
       by_cases k1 : k < 1
       ·have g1 : decide (k < 1) = true := decide_eq_true k1
        have g1' : decide ((k : Int) < 1) = true := decide_eq_true (by omega)
        have HV1 : Hid (noteE read l = none) := Lib.hid (by rw [HVV.out, if_pos (.inl k1)])
        have HT := Lib.hid (PTurn.of_below HPP.out (Below.refl _ _))
        clear k1
        go_wp2_with fail
        refine (HCP.out _).mono ?_
        rintro e w1 ⟨rfl, rfl⟩
        go_wp2_with fail
        refine (HRUN.out _).mono ?_
        rintro e w1 ⟨rfl, rfl⟩
        go_wp2_with fail
        go_ret
        rw [HV1.out]
        exact ⟨rfl, HT.out⟩
       have g1 : decide (k < 1) = false := decide_eq_false k1
       have g1' : decide ((k : Int) < 1) = false := decide_eq_false (by omega)
       by_cases k2 : 30 < k
       ·have g2 : decide (30 < k) = true := decide_eq_true k2
        have g2' : decide ((30 : Int) < (k : Int)) = true := decide_eq_true (by omega)
        have HV1 : Hid (noteE read l = none) := Lib.hid (by rw [HVV.out, if_pos (.inr k2)])
        have HT := Lib.hid (PTurn.of_below HPP.out (Below.refl _ _))
        clear k1 k2
        go_wp2_with fail
        refine (HCP.out _).mono ?_
        rintro e w1 ⟨rfl, rfl⟩
        go_wp2_with fail
        refine (HRUN.out _).mono ?_
        rintro e w1 ⟨rfl, rfl⟩
        go_wp2_with fail
        go_ret
        rw [HV1.out]
        exact ⟨rfl, HT.out⟩
       have g2 : decide (30 < k) = false := decide_eq_false k2
       have g2' : decide ((30 : Int) < (k : Int)) = false := decide_eq_false (by omega)
       have hv2 := HVV.out
       rw [if_neg (by omega)] at hv2
       have HV2 := Lib.hid hv2
       clear hv2 k1 HVV
       go_wp2_with fail
       refine (HCP.out _).mono ?_
       rintro e w1 ⟨rfl, rfl⟩
       go_wp2_with fail
       refine (HRUN.out _).mono ?_
       rintro e w2 ⟨rfl, rfl⟩
       go_wp2_with fail
       rw [← HY.out]
       refine (HA3.out _).mono ?_
       rintro e w3 ⟨rfl, rfl⟩
       cases b3 with
       | true =>
         have hv : noteE read l = some (note nm .nil, k + 12) := by rw [HV2.out, if_pos rfl]
         have HV1 := Lib.hid hv
         have hC := padd_p B g _ s D 5 X 0 ⟨#[]⟩ ⟨#[]⟩ none 0 0 .nil HPP.out ins_none hm
         have HC := Lib.hid hC
         clear hv hC
         go_wp2_with fail
         rw [← HX.out]
         refine HC.out.mono ?_
         rintro e w5 ⟨rfl, hT⟩
         have HT := Lib.hid hT
         clear hT
         go_wp2_with fail
         go_ret
         rw [HV1.out]
         refine ⟨?_, by have := HT.out; rw [HXM.out] at this; exact this⟩
         show Ending.returned (Value.int .i64 (10 + (k : Int) + 2)) = _
         rw [show 10 + (k : Int) + 2 = ((k + 12 : Nat) : Int) by omega]
       | false =>
         have hv := HV2.out
         rw [if_neg (by simp)] at hv
         have HV3 := Lib.hid hv
         clear hv
         go_wp2_with fail
         rw [← HY.out]
         refine (HA4.out _).mono ?_
         rintro e w5 ⟨rfl, rfl⟩
         cases b4 with
         | true =>
           have h62 : (r.drop k).head? = some 62 := by simpa using HB4.out.symm
           have hv : noteE read l = noteC read nm (k + 11) l := by rw [HV3.out, if_pos h62]
           have hks := HKS.out h62
           have HV1 := Lib.hid hv
           clear hv h62
           go_wp2_with fail
           go_meet
           case rel => exact ⟨nm, k + 11, by rw [← HX.out, HXM.out], by rw [show ((k + 11 : Nat) : Int) = 10 + (k : Int) + 1 by omega], hks, by omega, HV1.out, by first | rfl | trivial⟩
         | false =>
           have h62 : ¬ (r.drop k).head? = some 62 := by simpa using HB4.out.symm
           have hv : noteE read l = none := by rw [HV3.out, if_neg h62]
           have HV1 := Lib.hid hv
           have HT := Lib.hid (PTurn.of_below HPP.out (Below.refl _ _))
           clear hv h62
           go_wp2_with fail
           go_ret
           rw [HV1.out]
           exact ⟨rfl, HT.out⟩
  case rest =>
   obtain ⟨tx, n, rfl, rfl, hnt, hn1, hv, hwc⟩ := hcut
   subst hwc
   have hn' : (n : Int) ≤ (t.size : Int) := by omega
   have hdl : (l.drop n).length = t.size - n := by rw [List.length_drop, HZ.out]
   obtain ⟨Y, hY⟩ : ∃ Y, Y = t.extract n t.size := ⟨_, rfl⟩
   have hYd : Y.data.toList = l.drop n := by rw [hY, Lib.extract_to_end, HL.out]
   have hYz : Y.size = t.size - n := by
    have h6 : Y.data.toList.length = Y.size := by simp
    rw [← h6, hYd, hdl]
   obtain ⟨r, hr⟩ : ∃ r, r = l.drop n := ⟨_, rfl⟩
   have hv : noteE read l = if Lib.index r bEnd = -1 then none else
     if Lib.index (r.take (Lib.index r bEnd).toNat) bRef ≠ -1 then none else some (note tx (read (r.take (Lib.index r bEnd).toNat)), n + (r.take (Lib.index r bEnd).toNat).length + 6) := by rw [hv, hr, noteC_eq]
   rw [← hr] at hYd hdl
   have e2 : (⟨#[60, 47, 114, 101, 102, 62]⟩ : ByteArray).data.toList = bEnd := rfl
   have e3 : (⟨#[60, 114, 101, 102]⟩ : ByteArray).data.toList = bRef := rfl
   have hCU := Tryz.strings_Cut Y ⟨#[60, 47, 114, 101, 102, 62]⟩ mv w (by omega) HMV.out
   rw [e2, hYd] at hCU
   obtain ⟨C3, hC3⟩ : ∃ C3, C3 = Lib.cut r bEnd := ⟨_, rfl⟩
   obtain ⟨X, hX⟩ : ∃ X : ByteArray, X = ⟨C3.1.toArray⟩ := ⟨_, rfl⟩
   rw [← hC3, ← hX] at hCU
   have hXd : X.data.toList = C3.1 := by rw [hX]
   have hXl : X.size ≤ t.size := by
    have h6 : X.data.toList.length = X.size := by simp
    rw [← h6, hXd, hC3]
    unfold Lib.cut
    split
    ·rw [List.length_take]; omega
    ·show r.length ≤ _; omega
   have hK1 := fun W (hW : W.cell? ⟨0, 0, none⟩ = some (.int .i64 mv)) => Tryz.strings_Contains X ⟨#[60, 114, 101, 102]⟩ mv W (by omega) hW
   rw [e3, hXd, contains_eq] at hK1
   obtain ⟨b4, hb4⟩ : ∃ b4, b4 = decide (Lib.index C3.1 bRef ≠ -1) := ⟨_, rfl⟩
   rw [← hb4] at hK1
   have hbe : bEnd.length = 6 := rfl
   have hcase : (C3.2.2 = false ∧ noteE read l = none) ∨ (C3.2.2 = true ∧ C3.1.length + n + 6 ≤ t.size ∧ noteE read l = if b4 = true then none else some (note tx (read C3.1), n + C3.1.length + 6)) := by
    by_cases hi : Lib.index r bEnd = -1
    ·left
     rw [if_pos hi] at hv
     refine ⟨?_, hv⟩
     rw [hC3]; unfold Lib.cut; rw [if_neg (by omega)]
    ·right
     obtain ⟨j, hj, hjl⟩ := index_nat hi
     rw [hbe] at hjl
     rw [if_neg hi, hj, Int.toNat_natCast] at hv
     have h1 : C3 = (r.take j, r.drop (j + 6), true) := by rw [hC3]; unfold Lib.cut; rw [if_pos (by omega), hj]; rfl
     have hh : C3.1 = r.take j := by rw [h1]
     refine ⟨by rw [h1], ?_, ?_⟩
     ·rw [hh, List.length_take]; omega
     ·rw [hh] at hb4 ⊢
      rw [hv, hb4]
      by_cases h5 : Lib.index (r.take j) bRef = -1
      ·rw [if_neg (by simp [h5]), if_neg (by simp [h5])]
      ·rw [if_pos h5, if_pos (by simp [h5])]
   obtain ⟨c, hc⟩ : ∃ c, c = C3.1 := ⟨_, rfl⟩
   rw [← hc] at hXd hcase
   obtain ⟨cl, hcl⟩ : ∃ cl, cl = C3.2.2 := ⟨_, rfl⟩
   rw [← hcl] at hCU hcase
   have HCU := Lib.hid hCU
   have HK1 := Lib.hid hK1
   have HY := Lib.hid hY
   have HXD := Lib.hid hXd
   have HCASE := Lib.hid hcase
   clear hCU hK1 hY hXd hcase hv hr hdl hYd e2 e3 hC3 hX hb4 hbe hc hcl HV HCP HRUN HRD HP1 HP2 HK HA
   go_wp2_with fail
   rw [← HY.out]
   refine HCU.out.mono ?_
   rintro e w2 ⟨rfl, nd, hw2⟩
   have hb2 := below_drewN (Below.refl w.heap.size w) nd
   rw [← hw2] at hb2
   have HMV2 := Lib.hid ((hb2.cell (p := ⟨0, 0, none⟩) hML).trans HMV.out)
   have HB2 := Lib.hid hb2
   clear hw2 hb2 nd
   obtain ⟨b3, hb3⟩ : ∃ b3, b3 = (!cl || b4) := ⟨_, rfl⟩
   have HB3 := Lib.hid hb3
   clear hb3
   go_upto_region 15 with fail
   go_cut [68] from 65 to 68 (fun s68 wc => s68 = .bool b3 ∧ w2 = wc)
   case first =>
    cases cl with
    | false =>
      go_wp2_with fail
      go_meet
      case rel => exact ⟨by rw [HB3.out]; rfl, by first | rfl | trivial⟩
    | true =>
      cases b4 with
      | true =>
        go_wp2_with fail
        refine (HK1.out _ HMV2.out).mono ?_
        rintro e w3 ⟨rfl, rfl⟩
        go_wp2_with fail
        go_meet
        case rel => exact ⟨by rw [HB3.out]; rfl, by first | rfl | trivial⟩
      | false =>
        go_wp2_with fail
        refine (HK1.out _ HMV2.out).mono ?_
        rintro e w3 ⟨rfl, rfl⟩
        go_wp2_with fail
        go_meet
        case rel => exact ⟨by rw [HB3.out]; rfl, by first | rfl | trivial⟩
   case rest =>
    obtain ⟨rfl, rfl⟩ := hcut
    cases b3 with
    | true =>
      have hv : noteE read l = none := by
       have h := HB3.out
       rcases HCASE.out with ⟨h1, h2⟩ | ⟨h1, h2, h3⟩
       ·exact h2
       ·rw [h1] at h
        have h4 : b4 = true := by simpa using h.symm
        rw [h3, if_pos h4]
      have HV := Lib.hid hv
      have HT := Lib.hid (PTurn.of_below HPP.out HB2.out)
      clear hv
      go_wp2_with fail
      go_ret
      rw [HV.out]
      exact ⟨rfl, HT.out⟩
    | false =>
      have hv : noteE read l = some (note tx (read c), n + c.length + 6) ∧ c.length + n + 6 ≤ t.size := by
       have h := HB3.out
       rcases HCASE.out with ⟨h1, h2⟩ | ⟨h1, h2, h3⟩
       ·rw [h1] at h; cases h
       ·rw [h1] at h
        have h4 : ¬ b4 = true := by
         intro h5; rw [h5] at h; cases h
        exact ⟨by rw [h3, if_neg h4], h2⟩
      have hxs : X.size = c.length := by rw [← HXD.out]; simp
      have hXl : X.size < t.size := by have := hv.2; omega
      have HV := Lib.hid hv.1
      have hPA := IH.out X w2 (by omega) (by omega) ⟨mv, HMV2.out⟩
      simp only [HXD.out] at hPA
      obtain ⟨M, hM⟩ : ∃ M, M = (read c).len := ⟨_, rfl⟩
      simp only [← hM] at hPA
      have HPA := Lib.hid hPA
      have HXS := Lib.hid hxs
      clear hv hPA hM hxs HCASE HB3 HK1 HCU
      go_wp2_with fail
      refine HPA.out.mono ?_
      rintro e w11 ⟨p, cc, rfl, hsl, hb11⟩
      have hbz := HB2.out.size
      have hbel := below_then HB2.out hb11
      have hfr := HPP.out.fresh hbel
      have hsl2 := insS.sl_on hsl (Kept.mono fun k hk _ => Or.inr (Nat.le_trans hbz hk) : Kept _ (fun k => D k ∧ k < w.heap.size ∨ w.heap.size ≤ k) _ _)
      have hkp : Kept D (fun k => D k ∧ k < w.heap.size ∨ w.heap.size ≤ k) w w11 := fun j hj hl => ⟨.inl ⟨hj, hl⟩, hbel.block j hl⟩
      have hC := padd_p B g _ s _ 5 ⟨tx.toArray⟩ 0 ⟨#[]⟩ ⟨#[]⟩ p M cc (read c) hfr hsl2 hm
      have HC := Lib.hid hC
      have HKP := Lib.hid hkp
      have HBL := Lib.hid (hbel.mono (show B ≤ w.heap.size by omega))
      clear hsl hb11 hbel hfr hsl2 hkp hC
      go_wp2_with fail
      refine HC.out.mono ?_
      rintro e w12 ⟨rfl, hT⟩
      have HT := Lib.hid (PTurn.after HKP.out HBL.out hT)
      clear hT
      go_wp2_with fail
      go_ret
      rw [HV.out]
      refine ⟨?_, HT.out⟩
      rw [← HXS.out]
      rfl
end Go.Proofs.YthieinfonomeeaaGreatDoor
namespace Go.Proofs.YthieinfonomeeaaGreatDoor
open Go.RowKit Doc Tit Inl
set_option linter.unusedVariables false
attribute [local go_sem ↓] Go.wp_at_zero Go.wp_at_succ
def PStep (B g : Nat) (w w' : World) (s : S) (D : Nat → Prop) (e : Ending) (c : UInt8) (E : Ev) : Prop :=
 (e = .returned (.int .i64 0) ∧ E = .letter c 1 ∧ PTurn B g w w' s D) ∨ (e = .returned (.int .i64 E.len) ∧ PTurn B g w w' (E.app s) D)
set_option maxRecDepth 20000 in
set_option maxHeartbeats 8000000 in
theorem pstep_any (N : Nat) (ih : PParse N) (B g : Nat) (w : World) (s : S) (D : Nat → Prop) (t : ByteArray) (hP : PP B g w s D) (hmx : MX w) (hs : t.size ≤ 100000000) (hN : t.size ≤ N) (hm : s.m + t.size ≤ 1000000000) (c : UInt8) (r : List UInt8) (hd : t.data.toList = c :: r) :
  Calls Tryz.prog 98 #[.pointer (some ⟨g, 0, none⟩), .string t] w fun e w' => PStep B g w w' s D e c (ev read c r) := by
 have hz : t.data.toList.length = t.size := by simp
 have h0 : 0 < t.size := by rw [← hz, hd]; simp
 have hc0 : t[0] = c := by
  obtain ⟨h2, h3⟩ := byte_at t 0 h0
  rw [h3]
  simp only [hd, List.getElem_cons_zero]
 have hLI := plink_any N ih B g w s D t hP hmx hs hN (by omega)
 have hNO := fun W (h : w = W) => pnote_any N ih B g W s D t (by rw [← h]; exact hP) (by rw [← h]; exact hmx) hs hN (by omega)
 have hEN := pentity_any t w hs
 have hBR := fun W => Tryz.strings_HasPrefix t ⟨bBr.toArray⟩ W
 have hQU := pquotes_any B g w s D t hP hs _ rfl (by have := tw_le (fun c => decide (c = 39)) t.data.toList; omega)
 have e0 : (⟨bBr.toArray⟩ : ByteArray).data.toList = bBr := rfl
 rw [e0, hd] at hBR
 rw [hd] at hLI hEN hQU
 simp only [hd] at hNO
 have hev : ev read c r = (if c = 91 then ofLink c (linkE read (c :: r))
  else if c = 60 then (if Lib.hasPrefix (c :: r) bBr then .elem (el 6 [] .nil) 4 else ofNote c (noteE read (c :: r)))
  else if c = 38 then ofEnt c (ent (c :: r))
  else if c = 39 then ofQuotes ((c :: r).takeWhile (fun c => decide (c = 39))).length
  else .letter c 1) := rfl
 have hwz := hP.lt
 have hBg := hP.le
 have HLI := Lib.hid hLI
 have HNO := Lib.hid hNO
 have HEN := Lib.hid hEN
 have HBR := Lib.hid hBR
 have HQU := Lib.hid hQU
 have HEV := Lib.hid hev
 have HP := Lib.hid hP
 have HC0 := Lib.hid hc0
 have HD := Lib.hid hd
 clear hLI hNO hEN hBR hQU hev hP e0 ih hmx hz hc0 hd
 have hself : PTurn B g w w s D := ⟨D, fun k hk _ => ⟨hk, rfl⟩, HP.out, Below.refl _ _⟩
 have HSELF := Lib.hid hself
 clear hself
 by_cases c1 : c = 91
 ·have hev := HEV.out
  rw [if_pos c1] at hev
  have g1 : ((t[0].toNat : Int) == 91) = true := by rw [HC0.out, c1]; rfl
  obtain ⟨V, hV⟩ : ∃ V, V = linkE read (c :: r) := ⟨_, rfl⟩
  have hLI := HLI.out
  rw [← hV] at hev hLI
  have HEV1 := Lib.hid hev
  have HC := Lib.hid hLI
  clear hev hV hLI c1
  go_enter Tryz.func98, Tryz.ntmps98
  go_wp2_with fail
  go_simp
  refine HC.out.mono ?_
  rintro e w1 hpl
  cases V with
  | none =>
    obtain ⟨rfl, hT⟩ := hpl
    have HT := Lib.hid hT
    clear hT
    go_wp2_with fail
    go_ret
    exact .inl ⟨rfl, HEV1.out, HT.out⟩
  | some y =>
    obtain ⟨x, n⟩ := y
    cases x with
    | none =>
      obtain ⟨rfl, hT⟩ := hpl
      have HT := Lib.hid hT
      clear hT
      go_wp2_with fail
      go_ret
      right
      rw [HEV1.out]
      exact ⟨rfl, HT.out⟩
    | some x =>
      obtain ⟨rfl, hT⟩ := hpl
      have HT := Lib.hid hT
      clear hT
      go_wp2_with fail
      go_ret
      right
      rw [HEV1.out]
      exact ⟨rfl, HT.out⟩
 have g1 : ((t[0].toNat : Int) == 91) = false := by
  rw [HC0.out, beq_eq_false_iff_ne]
  intro e
  exact c1 ((u8_eq (n := 91) (by decide)).2 (by omega))
 have hev2 := HEV.out
 rw [if_neg c1] at hev2
 have HEV2 := Lib.hid hev2
 clear hev2 c1 HEV HLI
 by_cases c2 : c = 60
 ·have hev := HEV2.out
  rw [if_pos c2] at hev
  have g2 : ((t[0].toNat : Int) == 60) = true := by rw [HC0.out, c2]; rfl
  obtain ⟨b1, hb1⟩ : ∃ b1, b1 = Lib.hasPrefix (c :: r) bBr := ⟨_, rfl⟩
  obtain ⟨V, hV⟩ : ∃ V, V = noteE read (c :: r) := ⟨_, rfl⟩
  have hNO := HNO.out
  have hBR := HBR.out
  rw [← hb1] at hev hBR
  rw [← hV] at hev
  simp only [← hV] at hNO
  have HNO2 := Lib.hid hNO
  have HBR2 := Lib.hid hBR
  have HEV1 := Lib.hid hev
  clear hev hV hNO hBR hb1 c2
  cases b1 with
  | true =>
    have hC := padd_p B g w s D 6 ⟨#[]⟩ 0 ⟨#[]⟩ ⟨#[]⟩ none 0 0 .nil HP.out ins_none (by omega)
    have HC := Lib.hid hC
    have hev := HEV1.out
    rw [if_pos rfl] at hev
    have HEV3 := Lib.hid hev
    clear hC hev
    go_enter Tryz.func98, Tryz.ntmps98
    go_wp2_with fail
    go_simp
    refine (HBR2.out _).mono ?_
    rintro e w1 ⟨rfl, rfl⟩
    go_wp2_with fail
    refine HC.out.mono ?_
    rintro e w1 ⟨rfl, hT⟩
    have HT := Lib.hid hT
    clear hT
    go_wp2_with fail
    go_ret
    right
    rw [HEV3.out]
    exact ⟨rfl, HT.out⟩
  | false =>
    have hev := HEV1.out
    rw [if_neg (by simp)] at hev
    have HEV3 := Lib.hid hev
    clear hev
    go_enter Tryz.func98, Tryz.ntmps98
    go_wp2_with fail
    go_simp
    refine (HBR2.out _).mono ?_
    rintro e w1 ⟨rfl, hw1⟩
    subst hw1
    go_wp2_with fail
    refine (HNO2.out _ rfl).mono ?_
    rintro e w1 hpl
    cases V with
    | none =>
      obtain ⟨rfl, hT⟩ := hpl
      have HT := Lib.hid hT
      clear hT
      go_wp2_with fail
      go_ret
      exact .inl ⟨rfl, HEV3.out, HT.out⟩
    | some y =>
      obtain ⟨x, n⟩ := y
      obtain ⟨rfl, hT⟩ := hpl
      have HT := Lib.hid hT
      clear hT
      go_wp2_with fail
      go_ret
      right
      rw [HEV3.out]
      exact ⟨rfl, HT.out⟩
 have g2 : ((t[0].toNat : Int) == 60) = false := by
  rw [HC0.out, beq_eq_false_iff_ne]
  intro e
  exact c2 ((u8_eq (n := 60) (by decide)).2 (by omega))
 have hev3 := HEV2.out
 rw [if_neg c2] at hev3
 have HEV3 := Lib.hid hev3
 clear hev3 c2 HEV2 HNO HBR
 by_cases c3 : c = 38
 ·have hev := HEV3.out
  rw [if_pos c3] at hev
  have g3 : ((t[0].toNat : Int) == 38) = true := by rw [HC0.out, c3]; rfl
  obtain ⟨V, hV⟩ : ∃ V, V = ent (c :: r) := ⟨_, rfl⟩
  have hEN := HEN.out
  rw [← hV] at hev hEN
  have HEV1 := Lib.hid hev
  have HC := Lib.hid hEN
  have HV := Lib.hid hV
  clear hev hV hEN c3
  cases V with
  | none =>
    go_enter Tryz.func98, Tryz.ntmps98
    go_wp2_with fail
    go_simp
    refine HC.out.mono ?_
    rintro e w1 ⟨rfl, hb1⟩
    have HT := Lib.hid (PTurn.of_below HP.out hb1)
    clear hb1
    simp only [entV]
    go_wp2_with fail
    go_ret
    exact .inl ⟨rfl, HEV1.out, HT.out⟩
  | some y =>
    obtain ⟨x, n⟩ := y
    have hen := ent_len HV.out.symm
    have g4 : decide ((0 : Int) < (n : Int)) = true := decide_eq_true (by omega)
    have g4' : decide (0 < n) = true := decide_eq_true (by omega)
    clear hen
    go_enter Tryz.func98, Tryz.ntmps98
    go_wp2_with fail
    go_simp
    refine HC.out.mono ?_
    rintro e w1 ⟨rfl, hb1⟩
    have hfr := HP.out.fresh hb1
    have hkp : Kept D (fun k => D k ∧ k < w.heap.size ∨ w.heap.size ≤ k) w w1 := fun j hj hl => ⟨.inl ⟨hj, hl⟩, hb1.block j hl⟩
    have HKP := Lib.hid hkp
    have HBL := Lib.hid (hb1.mono (show B ≤ w.heap.size by omega))
    have hz1 := hb1.size
    have HFR := Lib.hid hfr
    obtain ⟨T, ov, tv, hT, hTL⟩ := hfr.rd
    obtain ⟨tq0, tc0, rfl⟩ := hT.txt.form
    obtain ⟨d0, d1⟩ := hT.kn.two
    have f1 := hT.kn.free 1
    have hgl := hT.lt
    have HT := Lib.hid hT
    have HTL := Lib.hid hTL
    have HOA := Lib.hid (hT.txt.below (below_new0 w1 (.cells #[.int .u8 (x.toNat : Int)] 5)))
    have HSB := Lib.hid (src_byte w1 5 x)
    have hpl : s.pend.length ≤ 1000000000 := by have := HP.out.m; unfold S.m at this; omega
    clear hb1 hfr hkp hT hTL
    simp only [entV]
    go_wp2_with (
     at_builtin
     go_must (refine append_bytes _ rfl _ _ rfl HOA.out rfl HSB.out rfl (by simp; omega) (by simp; omega) ?_)
     intro v4 w4 hown4 hgr4 hat4
     obtain ⟨tq, tc, rfl, hkn4, hgl4, htu⟩ := text_grown (V := w1.alloc (.cells #[.int .u8 (x.toNat : Int)] 5)) HT.out (by simp) (fun j hj => Below.heap_alloc w1 _ j hj) ((Below.refl B w1).alloc (by omega) _) hown4 hgr4 (fun k hk => by
      rcases hat4 with h | h
      ·exact .inl (by rw [← h]; exact hk)
      ·rw [h] at hk
       exact .inr (by have hk := Option.some.inj hk; rw [World.size_alloc] at hk; omega))
     obtain ⟨N4, hN4⟩ : ∃ N4, N4 = (s.pend ++ [x]).length := ⟨_, rfl⟩
     rw [← hN4] at htu ⊢
     clear hN4
     obtain ⟨d0, d1⟩ := hkn4.two
     have f1 := hkn4.free 1
     have HTU := Lib.hid htu
     clear hkn4 htu hown4 hgr4 hat4)
    go_ret
    right
    have h5 : ofEnt c (some (x, n)) = .letter x n := rfl
    rw [HEV1.out, h5]
    refine ⟨rfl, PTurn.after HKP.out HBL.out (PP.text HFR.out HTL.out HTU.out ?_)⟩
    have h1 := HP.out.m
    rw [List.length_append]
    unfold S.m at h1 hm
    simp only [List.length_cons, List.length_nil]
    omega
 have g3 : ((t[0].toNat : Int) == 38) = false := by
  rw [HC0.out, beq_eq_false_iff_ne]
  intro e
  exact c3 ((u8_eq (n := 38) (by decide)).2 (by omega))
 have hev4 := HEV3.out
 rw [if_neg c3] at hev4
 have HEV4 := Lib.hid hev4
 clear hev4 c3 HEV3 HEN
 by_cases c4 : c = 39
 ·have hev := HEV4.out
  rw [if_pos c4] at hev
  have g4 : ((t[0].toNat : Int) == 39) = true := by rw [HC0.out, c4]; rfl
  obtain ⟨q, hq⟩ : ∃ q, q = ((c :: r).takeWhile (fun c => decide (c = 39))).length := ⟨_, rfl⟩
  have hQU := HQU.out
  rw [← hq] at hev hQU
  have HEV1 := Lib.hid hev
  have HC := Lib.hid hQU
  have HC4 := Lib.hid c4
  clear hev hq hQU c4
  go_enter Tryz.func98, Tryz.ntmps98
  go_wp2_with fail
  go_simp
  refine HC.out.mono ?_
  rintro e w1 ⟨rfl, hT⟩
  by_cases hq2 : q < 2
  ·rw [if_pos hq2] at hT
   rw [if_pos hq2]
   have HT := Lib.hid hT
   clear hT
   go_wp2_with fail
   go_ret
   refine .inl ⟨rfl, ?_, HT.out⟩
   rw [HEV1.out]; unfold ofQuotes; rw [if_pos hq2]; rw [HC4.out]
  ·rw [if_neg hq2] at hT
   rw [if_neg hq2]
   have HT := Lib.hid hT
   clear hT
   go_wp2_with fail
   go_ret
   right
   have h5 : ofQuotes q = .quotes q := by unfold ofQuotes; rw [if_neg hq2]
   rw [HEV1.out, h5]
   exact ⟨rfl, HT.out⟩
 have g4 : ((t[0].toNat : Int) == 39) = false := by
  rw [HC0.out, beq_eq_false_iff_ne]
  intro e
  exact c4 ((u8_eq (n := 39) (by decide)).2 (by omega))
 have hev5 := HEV4.out
 rw [if_neg c4] at hev5
 have HEV5 := Lib.hid hev5
 clear hev5 c4 HEV4 HQU
 go_enter Tryz.func98, Tryz.ntmps98
 go_wp2_with fail
 go_simp
 go_ret
 exact .inl ⟨rfl, HEV5.out, HSELF.out⟩
end Go.Proofs.YthieinfonomeeaaGreatDoor
