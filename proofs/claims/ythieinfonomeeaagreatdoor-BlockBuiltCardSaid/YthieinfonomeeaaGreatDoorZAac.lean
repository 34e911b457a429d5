/-
  The claim's own texts, packed. Conditions: those typed in each theorem.
-/
import Derived.Test.YthieinfonomeeaaGreatDoorZAab
import Derived.Lib.SplitLaws
import Derived.Lib.ReplaceLaws
import Derived.Lib.TrimByte
import Derived.Lib.Join
namespace Go.Proofs.YthieinfonomeeaaGreatDoor.Tit
set_option linter.unusedVariables false
theorem index_cons_eq (c : UInt8) (l : List UInt8) : Lib.index (c :: l) [c] = 0 := by
 unfold Lib.index
 simp
theorem index_cons_ne {b c : UInt8} (h : b ≠ c) (l : List UInt8) : Lib.index (b :: l) [c] = if Lib.index l [c] = -1 then -1 else Lib.index l [c] + 1 := by
 rw [Lib.index]
 have : [c].isPrefixOf (b :: l) = false := by simp [List.isPrefixOf]; exact fun e => h e.symm
 rw [this]
 simp
theorem index_byte (c : UInt8) : ∀ l : List UInt8, Lib.index l [c] = if (l.takeWhile (· ≠ c)).length = l.length then -1 else ((l.takeWhile (· ≠ c)).length : Int)
 | [] => rfl
 | b :: l => by
   by_cases h : b = c
   ·subst h
    rw [index_cons_eq]
    simp
   ·rw [index_cons_ne h, index_byte c l, List.takeWhile_cons_of_pos (by simpa using h)]
    simp only [List.length_cons]
    by_cases e : (l.takeWhile (· ≠ c)).length = l.length
    ·rw [if_pos e, if_pos rfl, if_pos (by omega)]
    ·rw [if_neg e, if_neg (by omega), if_neg (by omega)]
     omega
theorem take_tw (c : UInt8) (l : List UInt8) : l.take (l.takeWhile (· ≠ c)).length = l.takeWhile (· ≠ c) := by
 induction l with
 | nil => rfl
 | cons b l ih =>
   by_cases h : b = c
   ·subst h; simp
   ·rw [List.takeWhile_cons_of_pos (by simpa using h)]
    simp only [List.length_cons, List.take_succ_cons, ih]
theorem cut_byte (c : UInt8) (l : List UInt8) : Lib.cut l [c] = if (l.takeWhile (· ≠ c)).length = l.length then (l, [], false) else (l.takeWhile (· ≠ c), l.drop ((l.takeWhile (· ≠ c)).length + 1), true) := by
 unfold Lib.cut
 rw [index_byte]
 by_cases e : (l.takeWhile (· ≠ c)).length = l.length
 ·rw [if_pos e, if_pos e, if_neg (by decide)]
 ·rw [if_neg e, if_neg e, if_pos (by omega)]
  simp only [Int.toNat_natCast, List.length_cons, List.length_nil, take_tw]
theorem tw_le (p : UInt8 → Bool) (l : List UInt8) : (l.takeWhile p).length ≤ l.length := by
 induction l with
 | nil => simp
 | cons b l ih => rw [List.takeWhile_cons]; split <;> simp <;> omega
theorem takeWhile_self {p : UInt8 → Bool} {l : List UInt8} (h : (l.takeWhile p).length = l.length) : l.takeWhile p = l := by
 induction l with
 | nil => rfl
 | cons b l ih =>
   rw [List.takeWhile_cons] at h ⊢
   split
   ·rename_i hb
    rw [if_pos hb] at h
    rw [ih (by simpa using h)]
   ·rename_i hb
    rw [if_neg hb] at h
    simp at h
theorem trimSuffix_chop (l : List UInt8) : Lib.trimSuffix l [32] = chop l := by
 unfold Lib.trimSuffix chop Lib.hasSuffix
 have h : [32].isSuffixOf l = true ↔ l.getLast? = some 32 := by
  rw [List.isSuffixOf_iff_suffix]
  constructor
  ·rintro ⟨t, rfl⟩; simp
  ·intro h
   obtain ⟨t, rfl⟩ := List.getLast?_eq_some_iff.1 h
   exact ⟨t, rfl⟩
 by_cases hl : l.getLast? = some 32
 ·rw [if_pos (h.2 hl), if_pos hl, List.dropLast_eq_take]
  rfl
 ·rw [if_neg (fun e => hl (h.1 e)), if_neg hl]
theorem trimPrefix_dropOne (l : List UInt8) : Lib.trimPrefix l [32] = dropOne l := by
 unfold Lib.trimPrefix dropOne Lib.hasPrefix
 cases l with
 | nil => simp [List.isPrefixOf]
 | cons a r =>
   by_cases h : a = 32
   ·subst h; simp [List.isPrefixOf]
   ·have : [32].isPrefixOf (a :: r) = false := by simp [List.isPrefixOf]; exact fun e => h e.symm
    rw [this]
    simp [h]
theorem replace_one (a b : UInt8) (hab : a ≠ b) : ∀ (l : List UInt8) (k : Nat), l.count a ≤ k → Lib.replaceK [a] [b] k l = l.map fun c => if c = a then b else c
 | [], k, h => by
   cases k with
   | zero => rfl
   | succ k => rw [Lib.replaceK]; rfl
 | c :: l, k, h => by
   by_cases e : c = a
   ·subst e
    rw [List.count_cons_self] at h
    obtain ⟨k, rfl⟩ : ∃ k', k = k' + 1 := ⟨k - 1, by omega⟩
    rw [Lib.replaceK_hit _ _ _ _ 0 (index_cons_eq c l)]
    simp only [List.take_zero, List.nil_append, List.length_cons, List.length_nil, Nat.zero_add, List.drop_succ_cons, List.drop_zero, List.map_cons, if_true, List.cons_append]
    rw [replace_one c b hab l k (by omega)]
   ·rw [List.count_cons_of_ne e] at h
    have ih := replace_one a b hab l k h
    have hi := index_cons_ne e l
    cases k with
    | zero =>
      rw [Lib.replaceK] at ih ⊢
      rw [List.map_cons, if_neg e, ← ih]
    | succ k =>
      rw [Lib.replaceK] at ih ⊢
      rw [hi]
      by_cases em : Lib.index l [a] = -1
      ·rw [if_pos em]
       rw [em] at ih
       simp only [BEq.rfl, if_true] at ih ⊢
       rw [List.map_cons, if_neg e, ← ih]
      ·have hg := Lib.index_ge l [a]
       have e1 : (Lib.index l [a] == -1) = false := by simpa using em
       have e2 : (Lib.index l [a] + 1 == -1) = false := by simp; omega
       rw [if_neg em, e2]
       rw [e1] at ih
       simp only [Bool.false_eq_true, if_false] at ih ⊢
       rw [show (Lib.index l [a] + 1).toNat = (Lib.index l [a]).toNat + 1 by omega]
       simp only [List.take_succ_cons, List.map_cons, if_neg e, List.cons_append, ← ih]
       rw [show (Lib.index l [a]).toNat + 1 + [a].length = (Lib.index l [a]).toNat + [a].length + 1 by omega, List.drop_succ_cons]
theorem replace_unb (l : List UInt8) : Lib.replaceAll l [95] [32] = l.map unb := by
 unfold Lib.replaceAll Lib.replace
 rw [if_neg (by decide)]
 have : Lib.replaceNum l [95] (-1) = Lib.count l [95] := by unfold Lib.replaceNum; rw [if_pos (.inl (by decide))]
 rw [this, replace_one 95 32 (by decide) l _ (by rw [Lib.count_one]; exact Nat.le_refl _)]
 rfl
theorem unb_unb (c : UInt8) : unb (unb c) = unb c := by
 unfold unb
 by_cases h : c = 95
 ·rw [if_pos h]; rfl
 ·rw [if_neg h, if_neg h]
theorem sqF_map : ∀ (s out : List UInt8), sqF out (s.map unb) = sqF out s
 | [], _ => rfl
 | c :: r, out => by
   rw [List.map_cons, sqF, sqF, unb_unb]
   split
   ·exact sqF_map r out
   ·exact sqF_map r _
theorem segs_ne (s : List UInt8) : segs s ≠ [] := by
 cases s with
 | nil => simp [segs]
 | cons c r =>
   unfold segs
   split
   ·simp
   ·cases segs r <;> simp
theorem split_segs : ∀ (s : List UInt8) (k : Nat), s.count 47 ≤ k → Lib.splitK [47] 0 k s = segs s
 | [], k, h => by
   cases k with
   | zero => rfl
   | succ k => rw [Lib.splitK]; rfl
 | c :: l, k, h => by
   by_cases e : c = 47
   ·subst e
    rw [List.count_cons_self] at h
    obtain ⟨k, rfl⟩ : ∃ k', k = k' + 1 := ⟨k - 1, by omega⟩
    rw [Lib.splitK, index_cons_eq]
    rw [if_neg (by decide)]
    simp only [Int.toNat_zero, Nat.add_zero, List.take_zero, List.length_cons, List.length_nil, Nat.zero_add, List.drop_succ_cons, List.drop_zero]
    rw [split_segs l k (by omega)]
    simp [segs]
   ·rw [List.count_cons_of_ne e] at h
    have ih := split_segs l k h
    have hi := index_cons_ne e l
    have hs : segs (c :: l) = match segs l with | [] => [[c]] | x :: m => (c :: x) :: m := by rw [segs, if_neg e]; cases segs l <;> rfl
    cases k with
    | zero =>
      rw [Lib.splitK] at ih ⊢
      rw [hs, ← ih]
    | succ k =>
      rw [Lib.splitK] at ih ⊢
      rw [hi]
      by_cases em : Lib.index l [47] = -1
      ·rw [if_pos em]
       rw [em] at ih
       simp only [BEq.rfl, if_true] at ih ⊢
       rw [hs, ← ih]
      ·have hg := Lib.index_ge l [47]
       have e1 : (Lib.index l [47] == -1) = false := by simpa using em
       have e2 : (Lib.index l [47] + 1 == -1) = false := by simp; omega
       rw [if_neg em, e2]
       rw [e1] at ih
       simp only [Bool.false_eq_true, if_false] at ih ⊢
       rw [hs, ← ih]
       rw [show (Lib.index l [47] + 1).toNat = (Lib.index l [47]).toNat + 1 by omega]
       simp only [Nat.add_zero, List.take_succ_cons]
       rw [show (Lib.index l [47]).toNat + 1 + ([47] : List UInt8).length = (Lib.index l [47]).toNat + ([47] : List UInt8).length + 1 by rw [List.length_singleton], List.drop_succ_cons]
def joinT : Bool → List (List UInt8) → List UInt8
 | _, [] => []
 | f, [p] => if f then p else Lib.trimLeftB p 32
 | f, p :: q :: r => Lib.trimRightB (if f then p else Lib.trimLeftB p 32) 32 ++ [47] ++ joinT false (q :: r)
theorem trimL_ne {c : UInt8} (h : c ≠ 32) (x : List UInt8) : Lib.trimLeftB (c :: x) 32 = c :: x := by
 unfold Lib.trimLeftB; rw [List.dropWhile_cons]; simp [h]
theorem trimL_eq (x : List UInt8) : Lib.trimLeftB (32 :: x) 32 = Lib.trimLeftB x 32 := by
 unfold Lib.trimLeftB; rw [List.dropWhile_cons]; simp
theorem trimL_head {x : List UInt8} (h : x.head? ≠ some 32) : Lib.trimLeftB x 32 = x := by
 cases x with
 | nil => rfl
 | cons a r => exact trimL_ne (by simpa using h) r
theorem trimR_nil : Lib.trimRightB [] 32 = [] := rfl
theorem trimR_one : Lib.trimRightB [32] 32 = [] := rfl
theorem drop_nil {p : UInt8 → Bool} : ∀ (l : List UInt8), l.dropWhile p = [] → ∀ y ∈ l, p y = true
 | [], _, y, hy => by cases hy
 | a :: l, h, y, hy => by
   rw [List.dropWhile_cons] at h
   split at h
   ·rename_i ha
    rcases List.mem_cons.1 hy with rfl | hy
    ·exact ha
    ·exact drop_nil l h y hy
   ·cases h
theorem dropWhile_snoc (c : UInt8) : ∀ (l : List UInt8), (l ++ [c]).dropWhile (· == 32) = if l.dropWhile (· == 32) = [] then [c].dropWhile (· == 32) else l.dropWhile (· == 32) ++ [c]
 | [] => by simp
 | a :: l => by
   rw [List.cons_append, List.dropWhile_cons, List.dropWhile_cons]
   split
   ·exact dropWhile_snoc c l
   ·simp
theorem trimR_cons {c : UInt8} {x : List UInt8} (h : c ≠ 32 ∨ x.head?.any (· ≠ 32) = true) : Lib.trimRightB (c :: x) 32 = c :: Lib.trimRightB x 32 := by
 unfold Lib.trimRightB
 rw [List.reverse_cons, dropWhile_snoc]
 by_cases e : x.reverse.dropWhile (· == 32) = []
 ·rw [if_pos e, e]
  rcases h with h | h
  ·rw [List.dropWhile_cons]; simp [h]
  ·exfalso
   cases x with
   | nil => simp at h
   | cons a r =>
     have ha : a ≠ 32 := by simpa using h
     have : a ∈ (a :: r).reverse := by simp
     have hall : ∀ y ∈ (a :: r).reverse, y = 32 := by
      intro y hy
      have := drop_nil _ e y hy
      simpa using this
     exact ha (hall a this)
 ·rw [if_neg e]; simp
theorem joinT_first {x : List UInt8} (l : List (List UInt8)) (h : Lib.trimLeftB x 32 = x) : joinT false (x :: l) = joinT true (x :: l) := by
 cases l with
 | nil => simp [joinT, h]
 | cons q r => simp [joinT, h]
theorem segs_head (r : List UInt8) {x : List UInt8} {l : List (List UInt8)} (h : segs r = x :: l) : (x.head? = r.head? ∧ r.head? ≠ some 47 ∧ (r = [] → l = [])) ∨ (x = [] ∧ r.head? = some 47) := by
 cases r with
 | nil => simp only [segs, List.cons.injEq] at h; obtain ⟨rfl, rfl⟩ := h; exact .inl ⟨rfl, by simp, fun _ => rfl⟩
 | cons c r =>
   unfold segs at h
   split at h
   ·rename_i hc
    injection h with h1 h2
    exact .inr ⟨h1.symm, by rw [hc]; rfl⟩
   ·rename_i hc
    left
    cases hr : segs r with
    | nil => exact absurd hr (segs_ne r)
    | cons y m =>
      rw [hr] at h
      injection h with h1 h2
      rw [← h1]
      exact ⟨rfl, by simpa using hc, fun h => by cases h⟩
theorem nob_join : ∀ (s : List UInt8) (p : UInt8), lone s → (p = 32 → s.head? ≠ some 32) → nobF p s = joinT (p ≠ 47) (segs s)
 | [], p, _, _ => by
   by_cases h : p = 47 <;> simp [nobF, segs, joinT, h, Lib.trimLeftB]
 | c :: r, p, hl, hp => by
   have hl2 : lone r := lone_tail hl
   have hnx : c = 32 → r.head? ≠ some 32 := by
    intro hc
    cases r with
    | nil => simp
    | cons b t => intro e; exact hl.1 ⟨hc, by simpa using e⟩
   have ih := nob_join r c hl2 hnx
   by_cases hc : c = 47
   ·subst hc
    have hs : segs (47 :: r) = [] :: segs r := by rw [segs, if_pos rfl]
    rw [hs, nobF, if_neg (by simp), ih]
    cases hr : segs r with
    | nil => exact absurd hr (segs_ne r)
    | cons y m =>
      simp only [joinT]
      have : Lib.trimRightB (if (decide (p ≠ 47)) = true then ([] : List UInt8) else Lib.trimLeftB [] 32) 32 = [] := by split <;> rfl
      rw [this]
      simp
   ·cases hr : segs r with
    | nil => exact absurd hr (segs_ne r)
    | cons x l =>
      have hs : segs (c :: r) = (c :: x) :: l := by rw [segs, if_neg hc, hr]
      have hh := segs_head r hr
      rw [hr] at ih
      rw [hs, nobF]
      have hc47 : decide (c ≠ 47) = true := by simpa using hc
      rw [hc47] at ih
      by_cases h32 : c = 32
      ·subst h32
       have hxh : Lib.trimLeftB x 32 = x := by
        refine trimL_head ?_
        rcases hh with ⟨h1, -, -⟩ | ⟨h1, -⟩
        ·rw [h1]; exact hnx rfl
        ·rw [h1]; simp
       by_cases hp47 : p = 47
       ·rw [if_pos ⟨rfl, .inl hp47⟩, ih, ← joinT_first l hxh]
        have hpd : decide (p ≠ 47) = false := by simpa using hp47
        rw [hpd]
        cases l with
        | nil => simp [joinT, trimL_eq]
        | cons q t => simp [joinT, trimL_eq]
       ·have hpd : decide (p ≠ 47) = true := by simpa using hp47
        rw [hpd]
        rcases hh with ⟨h1, h2, h3⟩ | ⟨h1, h2⟩
        ·rw [if_neg (by rintro ⟨-, h | h⟩; exact hp47 h; exact h2 h), ih]
         cases l with
         | nil => simp [joinT]
         | cons q t =>
           have hx : x.head?.any (· ≠ 32) = true := by
            rw [h1]
            cases hrh : r.head? with
            | none =>
              have : r = [] := by cases r with | nil => rfl | cons _ _ => simp at hrh
              exact absurd (h3 this) (by simp)
            | some b => have := hnx rfl; rw [hrh] at this; simpa using this
           simp only [joinT, if_true]
           rw [trimR_cons (.inr hx)]
           rfl
        ·rw [if_pos ⟨rfl, .inr h2⟩, ih, h1]
         cases l with
         | nil =>
           exfalso
           cases r with
           | nil => simp at h2
           | cons b t =>
             have hb : b = 47 := by simpa using h2
             rw [segs, if_pos hb] at hr
             injection hr with _ hr
             exact segs_ne t hr
         | cons q t => simp only [joinT, if_true, trimR_one, trimR_nil]
      ·rw [if_neg (fun h => h32 h.1), ih]
       cases l with
       | nil =>
         simp only [joinT, if_true]
         split
         ·rfl
         ·rw [trimL_ne h32]
       | cons q t =>
         have e : (if decide (p ≠ 47) = true then c :: x else Lib.trimLeftB (c :: x) 32) = c :: x := by
          split
          ·rfl
          ·exact trimL_ne h32 x
         simp only [joinT, if_true]
         rw [e, trimR_cons (.inl h32)]
         rfl
end Go.Proofs.YthieinfonomeeaaGreatDoor.Tit
namespace Go.Proofs.YthieinfonomeeaaGreatDoor.Inl
open Doc Tit
set_option linter.unusedVariables false
def dg (c : UInt8) : Bool := decide (48 ≤ c.toNat) && decide (c.toNat ≤ 57)
def num (l : List UInt8) : Nat := l.foldl (fun n c => n * 10 + (c.toNat - 48)) 0
def eLt : List UInt8 := [38, 108, 116, 59]
def eGt : List UInt8 := [38, 103, 116, 59]
def eAmp : List UInt8 := [38, 97, 109, 112, 59]
def eQuot : List UInt8 := [38, 113, 117, 111, 116, 59]
def entN (r : List UInt8) : Option (UInt8 × Nat) :=
 if 1 ≤ (r.takeWhile dg).length ∧ (r.takeWhile dg).length ≤ 3 ∧ r[(r.takeWhile dg).length]? = some 59 ∧ 1 ≤ num (r.takeWhile dg) ∧ num (r.takeWhile dg) ≤ 255
 then some (UInt8.ofNat (num (r.takeWhile dg)), (r.takeWhile dg).length + 3) else none
def ent (l : List UInt8) : Option (UInt8 × Nat) :=
 if Lib.hasPrefix l eLt then some (60, 4)
 else if Lib.hasPrefix l eGt then some (62, 4)
 else if Lib.hasPrefix l eAmp then some (38, 5)
 else if Lib.hasPrefix l eQuot then some (34, 6)
 else if Lib.hasPrefix l [38, 35] then entN (l.drop 2) else none
def decF : Nat → List UInt8 → List UInt8
 | 0, _ => []
 | _ + 1, [] => []
 | f + 1, c :: r => match ent (c :: r) with
   | some (x, n) => x :: decF f ((c :: r).drop n)
   | none => c :: decF f r
def dec (l : List UInt8) : List UInt8 := decF l.length l
abbrev Stk := List (Int × Ins)
def el (k : Int) (t : List UInt8) (kids : Ins) : Ins := .cons k ⟨t.toArray⟩ 0 ⟨#[]⟩ ⟨#[]⟩ kids .nil
def txt (t : List UInt8) : Ins := el 1 t .nil
def addTop (x : Ins) : Stk → Stk
 | [] => []
 | (k, l) :: r => (k, l.app x) :: r
def flush (st : Stk) (p : List UInt8) : Stk := if p = [] then st else addTop (txt p) st
def endT : Stk → Stk
 | [] => []
 | (k, l) :: r => if l.len = 0 then r else addTop (el k [] l) r
def endN : Nat → Stk → Stk
 | 0, st => st
 | n + 1, st => endN n (endT st)
def later (k : Int) (st : Stk) : List Int := (st.takeWhile fun e => e.1 != k).map (·.1)
def reopen : List Int → Stk → Stk
 | [], st => st
 | k :: r, st => (k, .nil) :: reopen r st
def toggle (k : Int) (st : Stk) : Stk :=
 if (later k st).length = st.length then (k, .nil) :: st else reopen (later k st) (endN ((later k st).length + 1) st)
structure S where
 stk : Stk
 pend : List UInt8
def S.add (s : S) (x : Ins) : S := ⟨addTop x (flush s.stk s.pend), []⟩
def S.letter (s : S) (c : UInt8) : S := ⟨s.stk, s.pend ++ [c]⟩
def S.toggle (s : S) (k : Int) : S := ⟨Inl.toggle k (flush s.stk s.pend), []⟩
def left (n : Nat) : Nat := if n = 4 then 3 else min n 5
def S.quotes (s : S) (n : Nat) : S :=
 let a : S := ⟨s.stk, s.pend ++ List.replicate (n - left n) 39⟩
 let b := if 3 ≤ left n then a.toggle 2 else a
 if left n ≠ 3 then b.toggle 3 else b
def start : S := ⟨[(0, .nil)], []⟩
def S.fin (s : S) : Ins := match endN (s.stk.length - 1) (flush s.stk s.pend) with
 | (_, l) :: _ => l
 | [] => .nil
def bl3 (c : UInt8) : Bool := c == 9 || c == 32 || c == 95
def ws4 (c : UInt8) : Bool := c == 9 || c == 10 || c == 13 || c == 32
def trimW (p : UInt8 → Bool) (l : List UInt8) : List UInt8 := ((l.dropWhile p).reverse.dropWhile p).reverse
def bef (c : UInt8) (l : List UInt8) : List UInt8 := l.takeWhile (· ≠ c)
def aftr (c : UInt8) (l : List UInt8) : List UInt8 := l.drop ((bef c l).length + 1)
def has (c : UInt8) (l : List UInt8) : Bool := decide ((bef c l).length < l.length)
def label (content : List UInt8) : List UInt8 :=
 if has 124 content then aftr 124 content else if (bef 124 content).head? = some 58 then (bef 124 content).tail else bef 124 content
def lname (content : List UInt8) : List UInt8 := bef 35 (bef 124 content)
def lanchor (content : List UInt8) : List UInt8 := if has 35 (bef 124 content) then trimW ws4 (aftr 35 (bef 124 content)) else []
def linkC (P : List UInt8 → Ins) (c : List UInt8) : Option (Option Ins) :=
 if (lname c).any (fun x => !(bl3 x)) || decide (lanchor c = []) then
  if (parse (lname c)).2.2 ≠ 0 then none
  else if (parse (lname c)).1 = 4 ∧ ((lname c).dropWhile bl3).head? ≠ some 58 then some none
  else some (some (.cons 4 ⟨#[]⟩ (parse (lname c)).1 ⟨(parse (lname c)).2.1.toArray⟩ ⟨(lanchor c).toArray⟩ (P (label c)) .nil))
 else some (some (.cons 4 ⟨#[]⟩ 0 ⟨#[]⟩ ⟨(lanchor c).toArray⟩ (P (label c)) .nil))
def linkE (P : List UInt8 → Ins) (l : List UInt8) : Option (Option Ins × Nat) :=
 if Lib.hasPrefix l [91, 91] then
  if Lib.index (l.drop 2) [93, 93] = -1 then none
  else
   let c := (l.drop 2).take (Lib.index (l.drop 2) [93, 93]).toNat
   if Lib.index c [91, 91] ≠ -1 ∨ 10 ∈ c then none else (linkC P c).map fun x => (x, c.length + 4)
 else none
def word (c : UInt8) : Bool := dg c || (decide (97 ≤ c.toNat) && decide (c.toNat ≤ 122)) || (decide (65 ≤ c.toNat) && decide (c.toNat ≤ 90)) || c == 45 || c == 95
def bRef : List UInt8 := [60, 114, 101, 102]
def bRefG : List UInt8 := [60, 114, 101, 102, 62]
def bRefN : List UInt8 := [60, 114, 101, 102, 32, 110, 97, 109, 101, 61]
def bEnd : List UInt8 := [60, 47, 114, 101, 102, 62]
def bBr : List UInt8 := [60, 98, 114, 62]
def note (nm : List UInt8) (kids : Ins) : Ins := .cons 5 ⟨nm.toArray⟩ 0 ⟨#[]⟩ ⟨#[]⟩ kids .nil
def noteC (P : List UInt8 → Ins) (nm : List UInt8) (n : Nat) (l : List UInt8) : Option (Ins × Nat) :=
 if Lib.index (l.drop n) bEnd = -1 then none
 else
  let c := (l.drop n).take (Lib.index (l.drop n) bEnd).toNat
  if Lib.index c bRef ≠ -1 then none else some (note nm (P c), n + c.length + 6)
def noteE (P : List UInt8 → Ins) (l : List UInt8) : Option (Ins × Nat) :=
 if Lib.hasPrefix l bRefG then noteC P [] 5 l
 else if Lib.hasPrefix l bRefN then
  let r := l.drop 10
  let nm := r.takeWhile word
  if nm.length < 1 ∨ 30 < nm.length then none
  else if Lib.hasPrefix (r.drop nm.length) [47, 62] then some (note nm .nil, nm.length + 12)
  else if (r.drop nm.length).head? = some 62 then noteC P nm (nm.length + 11) l
  else none
 else none
inductive Ev where
 | letter (c : UInt8) (n : Nat)
 | elem (x : Ins) (n : Nat)
 | skip (n : Nat)
 | quotes (n : Nat)
def Ev.len : Ev → Nat
 | letter _ n => n
 | elem _ n => n
 | skip n => n
 | quotes n => n
def Ev.app (s : S) : Ev → S
 | letter c _ => s.letter c
 | elem x _ => s.add x
 | skip _ => s
 | quotes n => s.quotes n
def ofLink : UInt8 → Option (Option Ins × Nat) → Ev
 | c, none => .letter c 1
 | _, some (none, n) => .skip n
 | _, some (some x, n) => .elem x n
def ofNote : UInt8 → Option (Ins × Nat) → Ev
 | c, none => .letter c 1
 | _, some (x, n) => .elem x n
def ofEnt : UInt8 → Option (UInt8 × Nat) → Ev
 | c, none => .letter c 1
 | _, some (x, n) => .letter x n
def ofQuotes (n : Nat) : Ev := if n < 2 then .letter 39 1 else .quotes n
def ev (P : List UInt8 → Ins) (c : UInt8) (r : List UInt8) : Ev :=
 if c = 91 then ofLink c (linkE P (c :: r))
 else if c = 60 then (if Lib.hasPrefix (c :: r) bBr then .elem (el 6 [] .nil) 4 else ofNote c (noteE P (c :: r)))
 else if c = 38 then ofEnt c (ent (c :: r))
 else if c = 39 then ofQuotes ((c :: r).takeWhile (· = 39)).length
 else .letter c 1
def run (P : List UInt8 → Ins) : Nat → S → List UInt8 → S
 | 0, s, _ => s
 | _ + 1, s, [] => s
 | f + 1, s, c :: r => run P f ((ev P c r).app s) ((c :: r).drop (ev P c r).len)
def parseF : Nat → List UInt8 → Ins
 | 0, _ => .nil
 | d + 1, l => (run (parseF d) l.length start l).fin
end Go.Proofs.YthieinfonomeeaaGreatDoor.Inl
namespace Go.Proofs.YthieinfonomeeaaGreatDoor.Inl
open Doc Tit
set_option linter.unusedVariables false
theorem hp_le {s p : List UInt8} (h : Lib.hasPrefix s p = true) : p.length ≤ s.length := by
 rw [← Lib.hasPrefix_of_take, Bool.and_eq_true] at h
 exact of_decide_eq_true h.1
theorem index_nat {s sub : List UInt8} (h : Lib.index s sub ≠ -1) : ∃ i : Nat, Lib.index s sub = i ∧ i + sub.length ≤ s.length := by
 have h1 := Lib.index_ge s sub
 have h2 := Lib.index_room s sub (by omega)
 exact ⟨(Lib.index s sub).toNat, by omega, by omega⟩
theorem bef_le (c : UInt8) (l : List UInt8) : (bef c l).length ≤ l.length := tw_le _ _
theorem aftr_le (c : UInt8) (l : List UInt8) : (aftr c l).length ≤ l.length := by unfold aftr; simp
theorem label_le (c : List UInt8) : (label c).length ≤ c.length := by
 have h1 := bef_le 124 c
 have h2 := aftr_le 124 c
 unfold label
 split
 ·exact h2
 ·split
  ·simp; omega
  ·exact h1
theorem linkC_cong {P P' : List UInt8 → Ins} {c : List UInt8} (h : P (label c) = P' (label c)) : linkC P c = linkC P' c := by unfold linkC; rw [h]
theorem linkE_cong {P P' : List UInt8 → Ins} {l : List UInt8} (h : ∀ x, x.length < l.length → P x = P' x) : linkE P l = linkE P' l := by
 unfold linkE
 split
 ·rename_i hp
  have hl := hp_le hp
  split
  ·rfl
  ·dsimp only
   split
   ·rfl
   ·rw [linkC_cong (h _ _)]
    have h1 := label_le ((l.drop 2).take (Lib.index (l.drop 2) [93, 93]).toNat)
    simp only [List.length_take, List.length_drop, List.length_cons, List.length_nil] at h1 hl
    omega
 ·rfl
theorem noteC_cong {P P' : List UInt8 → Ins} {nm l : List UInt8} {n : Nat} (hn : 1 ≤ n) (hl : 1 ≤ l.length) (h : ∀ x, x.length < l.length → P x = P' x) : noteC P nm n l = noteC P' nm n l := by
 unfold noteC
 split
 ·rfl
 ·dsimp only
  split
  ·rfl
  ·rw [h]
   simp only [List.length_take, List.length_drop]
   omega
theorem noteE_cong {P P' : List UInt8 → Ins} {l : List UInt8} (h : ∀ x, x.length < l.length → P x = P' x) : noteE P l = noteE P' l := by
 unfold noteE
 split
 ·rename_i hp
  have hl := hp_le hp
  exact noteC_cong (by decide) (by simp only [bRefG, List.length_cons, List.length_nil] at hl; omega) h
 ·split
  ·rename_i hp
   have hl := hp_le hp
   dsimp only
   split
   ·rfl
   ·split
    ·rfl
    ·split
     ·exact noteC_cong (by omega) (by simp only [bRefN, List.length_cons, List.length_nil] at hl; omega) h
     ·rfl
  ·rfl
theorem ev_cong {P P' : List UInt8 → Ins} {c : UInt8} {r : List UInt8} (h : ∀ x, x.length < (c :: r).length → P x = P' x) : ev P c r = ev P' c r := by
 unfold ev
 rw [linkE_cong h, noteE_cong h]
theorem linkE_len {P : List UInt8 → Ins} {l : List UInt8} {x : Option Ins} {n : Nat} (h : linkE P l = some (x, n)) : 1 ≤ n ∧ n ≤ l.length := by
 unfold linkE at h
 split at h
 ·rename_i hp
  have hl := hp_le hp
  split at h
  ·cases h
  ·rename_i hi
   obtain ⟨i, h1, h2⟩ := index_nat hi
   dsimp only at h
   split at h
   ·cases h
   ·cases hc : linkC P ((l.drop 2).take (Lib.index (l.drop 2) [93, 93]).toNat) with
    | none => rw [hc] at h; cases h
    | some y =>
      rw [hc] at h
      injection h with h
      injection h with _ h
      subst h
      rw [h1]
      simp only [List.length_take, List.length_drop, List.length_cons, List.length_nil] at h2 hl ⊢
      omega
 ·cases h
theorem noteC_len {P : List UInt8 → Ins} {nm l : List UInt8} {k : Nat} {x : Ins} {n : Nat} (h : noteC P nm k l = some (x, n)) : 1 ≤ n ∧ n ≤ l.length := by
 unfold noteC at h
 split at h
 ·cases h
 ·rename_i hi
  obtain ⟨i, h1, h2⟩ := index_nat hi
  dsimp only at h
  split at h
  ·cases h
  ·injection h with h
   injection h with _ h
   subst h
   rw [h1]
   simp only [List.length_take, List.length_drop, bEnd, List.length_cons, List.length_nil] at h2 ⊢
   omega
theorem noteE_len {P : List UInt8 → Ins} {l : List UInt8} {x : Ins} {n : Nat} (h : noteE P l = some (x, n)) : 1 ≤ n ∧ n ≤ l.length := by
 unfold noteE at h
 split at h
 ·exact noteC_len h
 ·split at h
  ·rename_i hp
   have hl := hp_le hp
   dsimp only at h
   split at h
   ·cases h
   ·split at h
    ·rename_i hq
     have hl2 := hp_le hq
     injection h with h
     injection h with _ h
     subst h
     simp only [List.length_drop, bRefN, List.length_cons, List.length_nil] at hl hl2
     omega
    ·split at h
     ·exact noteC_len h
     ·cases h
  ·cases h
theorem ent_len {l : List UInt8} {x : UInt8} {n : Nat} (h : ent l = some (x, n)) : 1 ≤ n ∧ n ≤ l.length := by
 unfold ent at h
 repeat' (split at h)
 ·rename_i hp
  have hl := hp_le hp
  injection h with h; injection h with _ h; subst h
  exact ⟨by decide, hl⟩
 ·rename_i hp
  have hl := hp_le hp
  injection h with h; injection h with _ h; subst h
  exact ⟨by decide, hl⟩
 ·rename_i hp
  have hl := hp_le hp
  injection h with h; injection h with _ h; subst h
  exact ⟨by decide, hl⟩
 ·rename_i hp
  have hl := hp_le hp
  injection h with h; injection h with _ h; subst h
  exact ⟨by decide, hl⟩
 ·rename_i hp
  have hl := hp_le hp
  unfold entN at h
  split at h
  ·rename_i hc
   injection h with h; injection h with _ h; subst h
   obtain ⟨hr, _⟩ := List.getElem?_eq_some_iff.1 hc.2.2.1
   simp only [List.length_drop, List.length_cons, List.length_nil] at hr hl
   omega
  ·cases h
 ·cases h
theorem ev_len (P : List UInt8 → Ins) (c : UInt8) (r : List UInt8) : 1 ≤ (ev P c r).len ∧ (ev P c r).len ≤ (c :: r).length := by
 have h1 : (1 : Nat) ≤ 1 ∧ 1 ≤ (c :: r).length := ⟨Nat.le_refl _, by simp⟩
 unfold ev
 split
 ·cases h : linkE P (c :: r) with
  | none => exact h1
  | some y =>
    obtain ⟨x, n⟩ := y
    have := linkE_len h
    cases x <;> exact this
 ·split
  ·split
   ·rename_i hp
    have hl := hp_le hp
    exact ⟨(by decide : 1 ≤ 4), hl⟩
   ·cases h : noteE P (c :: r) with
    | none => exact h1
    | some y => exact noteE_len h
  ·split
   ·cases h : ent (c :: r) with
    | none => exact h1
    | some y => exact ent_len h
   ·split
    ·unfold ofQuotes
     split
     ·exact h1
     ·rename_i hn
      refine ⟨?_, tw_le _ _⟩
      show 1 ≤ _
      simp only [Ev.len]
      omega
    ·exact h1
theorem run_cong {P P' : List UInt8 → Ins} : ∀ (f : Nat) (s : S) (l : List UInt8), (∀ x, x.length < l.length → P x = P' x) → run P f s l = run P' f s l
 | 0, _, _, _ => rfl
 | f + 1, _, [], _ => rfl
 | f + 1, s, c :: r, h => by
   rw [run, run, ev_cong h]
   have hl := (ev_len P' c r).1
   exact run_cong f _ _ fun x hx => h x (by rw [List.length_drop] at hx; omega)
theorem run_fuel (P : List UInt8 → Ins) : ∀ (f g : Nat) (s : S) (l : List UInt8), l.length ≤ f → l.length ≤ g → run P f s l = run P g s l
 | 0, 0, _, _, _, _ => rfl
 | 0, g + 1, s, l, h, _ => by
   have : l = [] := List.length_eq_zero_iff.1 (by omega)
   subst this; rfl
 | f + 1, 0, s, l, _, h => by
   have : l = [] := List.length_eq_zero_iff.1 (by omega)
   subst this; rfl
 | f + 1, g + 1, s, [], _, _ => rfl
 | f + 1, g + 1, s, c :: r, h1, h2 => by
   rw [run, run]
   have hl := (ev_len P c r).1
   simp only [List.length_cons] at h1 h2
   exact run_fuel P f g _ _ (by rw [List.length_drop]; simp only [List.length_cons]; omega) (by rw [List.length_drop]; simp only [List.length_cons]; omega)
theorem parseF_eq : ∀ (d d' : Nat) (l : List UInt8), l.length < d → l.length < d' → parseF d l = parseF d' l
 | 0, _, l, h, _ => by omega
 | _ + 1, 0, l, _, h => by omega
 | d + 1, d' + 1, l, h1, h2 => by
   rw [parseF, parseF, run_cong _ _ l (fun x hx => parseF_eq d d' x (by omega) (by omega))]
def read (l : List UInt8) : Ins := parseF (l.length + 1) l
theorem read_of {d : Nat} {l : List UInt8} (h : l.length < d) : parseF d l = read l := parseF_eq _ _ _ h (by omega)
def goes (s : S) (l : List UInt8) : S := run read l.length s l
theorem read_goes (l : List UInt8) : read l = (goes start l).fin := by
 unfold read goes
 rw [parseF, run_cong _ _ l (fun x hx => read_of hx)]
theorem goes_nil (s : S) : goes s [] = s := rfl
theorem goes_cons (s : S) (c : UInt8) (r : List UInt8) : goes s (c :: r) = goes ((ev read c r).app s) ((c :: r).drop (ev read c r).len) := by
 unfold goes
 rw [List.length_cons, run]
 have hl := (ev_len read c r).1
 exact run_fuel _ _ _ _ _ (by rw [List.length_drop]; simp only [List.length_cons]; omega) (Nat.le_refl _)
def Ok (st : Stk) : Prop := (∃ l, st = [(0, l)]) ∨ (∃ k a l, (k = 2 ∨ k = 3) ∧ st = [(k, a), (0, l)]) ∨ (∃ k k' a b l, ((k = 2 ∧ k' = 3) ∨ (k = 3 ∧ k' = 2)) ∧ st = [(k, a), (k', b), (0, l)])
theorem Ok.addTop {st : Stk} (h : Ok st) (x : Ins) : Ok (addTop x st) := by
 rcases h with ⟨l, rfl⟩ | ⟨k, a, l, hk, rfl⟩ | ⟨k, k', a, b, l, hk, rfl⟩
 ·exact .inl ⟨_, rfl⟩
 ·exact .inr (.inl ⟨_, _, _, hk, rfl⟩)
 ·exact .inr (.inr ⟨_, _, _, _, _, hk, rfl⟩)
theorem Ok.flush {st : Stk} (h : Ok st) (p : List UInt8) : Ok (flush st p) := by
 unfold Inl.flush
 split
 ·exact h
 ·exact h.addTop _
theorem endT_two (k : Int) (a : Ins) (k' : Int) (b : Ins) (r : Stk) : ∃ b', endT ((k, a) :: (k', b) :: r) = (k', b') :: r := by
 simp only [endT]
 split
 ·exact ⟨b, rfl⟩
 ·exact ⟨_, rfl⟩
theorem later_eq {k : Int} {a : Ins} {r : Stk} : later k ((k, a) :: r) = [] := by simp [later]
theorem later_ne {k k' : Int} {a : Ins} {r : Stk} (h : k' ≠ k) : later k ((k', a) :: r) = k' :: later k r := by simp [later, h]
theorem Ok.toggle {st : Stk} (h : Ok st) {k : Int} (hk : k = 2 ∨ k = 3) : Ok (toggle k st) := by
 have h0 : (0 : Int) ≠ k := by omega
 rcases h with ⟨l, rfl⟩ | ⟨k1, a, l, hk1, rfl⟩ | ⟨k1, k2, a, b, l, hk1, rfl⟩
 ·unfold Inl.toggle
  rw [later_ne h0]
  exact .inr (.inl ⟨_, _, _, hk, rfl⟩)
 ·unfold Inl.toggle
  by_cases e : k1 = k
  ·subst e
   rw [later_eq]
   simp only [List.length_nil, List.length_cons, endN, reopen]
   obtain ⟨b', hb⟩ := endT_two k1 a 0 l []
   rw [if_neg (by simp), hb]
   exact .inl ⟨_, rfl⟩
  ·rw [later_ne e, later_ne h0]
   rw [if_pos (by simp [later])]
   exact .inr (.inr ⟨_, _, _, _, _, by omega, rfl⟩)
 ·unfold Inl.toggle
  by_cases e : k1 = k
  ·subst e
   rw [later_eq]
   obtain ⟨b', hb⟩ := endT_two k1 a k2 b [(0, l)]
   rw [if_neg (by simp)]
   simp only [List.length_nil, endN, reopen, hb]
   exact .inr (.inl ⟨_, _, _, by omega, rfl⟩)
  ·have e2 : k2 = k := by omega
   subst e2
   rw [later_ne e, later_eq]
   obtain ⟨b', hb⟩ := endT_two k1 a k2 b [(0, l)]
   obtain ⟨l', hl⟩ := endT_two k2 b' 0 l []
   rw [if_neg (by simp)]
   simp only [List.length_cons, List.length_nil, endN, reopen, hb, hl]
   exact .inr (.inl ⟨_, _, _, by omega, rfl⟩)
theorem Ok.app {s : S} (h : Ok s.stk) (e : Ev) : Ok (e.app s).stk := by
 cases e with
 | letter c n => exact h
 | elem x n => exact (h.flush _).addTop _
 | skip n => exact h
 | quotes n =>
   simp only [Ev.app, S.quotes]
   split
   ·split
    ·exact (((h.flush _).toggle (.inl rfl)).flush _).toggle (.inr rfl)
    ·exact (h.flush _).toggle (.inr rfl)
   ·split
    ·exact (h.flush _).toggle (.inl rfl)
    ·exact h
theorem ok_start : Ok start.stk := .inl ⟨_, rfl⟩
theorem Ok.run {P : List UInt8 → Ins} : ∀ (f : Nat) (s : S) (l : List UInt8), Ok s.stk → Ok (run P f s l).stk
 | 0, _, _, h => h
 | _ + 1, _, [], h => h
 | f + 1, s, c :: r, h => Ok.run f _ _ (h.app _)
theorem Ok.goes {s : S} (h : Ok s.stk) (l : List UInt8) : Ok (goes s l).stk := Ok.run _ _ _ h
def tot : Stk → Nat
 | [] => 0
 | (_, l) :: r => l.len + tot r
def S.m (s : S) : Nat := tot s.stk + s.pend.length
theorem el_len (k : Int) (t : List UInt8) (a : Ins) : (el k t a).len = 1 := rfl
theorem tot_addTop (x : Ins) : ∀ st, tot (addTop x st) ≤ tot st + x.len
 | [] => by simp [addTop, tot]
 | (k, l) :: r => by simp only [addTop, tot, Ins.len_app]; omega
theorem tot_flush (st : Stk) (p : List UInt8) : tot (flush st p) ≤ tot st + p.length := by
 unfold flush
 split
 ·omega
 ·rename_i h
  have h1 := tot_addTop (txt p) st
  have h2 : (txt p).len = 1 := rfl
  have h3 : 0 < p.length := List.length_pos_iff.2 h
  omega
theorem tot_endT : ∀ st, tot (endT st) ≤ tot st
 | [] => Nat.le_refl _
 | (k, l) :: r => by
   simp only [endT]
   split
   ·simp only [tot]; omega
   ·have := tot_addTop (el k [] l) r
    rw [el_len] at this
    simp only [tot]; omega
theorem tot_endN : ∀ n st, tot (endN n st) ≤ tot st
 | 0, st => Nat.le_refl _
 | n + 1, st => Nat.le_trans (tot_endN n _) (tot_endT st)
theorem tot_reopen : ∀ l st, tot (reopen l st) = tot st
 | [], st => rfl
 | k :: r, st => by simp only [reopen, tot, Ins.len, tot_reopen r st]; omega
theorem tot_toggle (k : Int) (st : Stk) : tot (toggle k st) ≤ tot st := by
 unfold toggle
 split
 ·simp only [tot, Ins.len]; omega
 ·rw [tot_reopen]; exact tot_endN _ _
theorem m_toggle (s : S) (k : Int) : (s.toggle k).m ≤ s.m := by
 have h1 := tot_flush s.stk s.pend
 have h2 := tot_toggle k (flush s.stk s.pend)
 simp only [S.m, S.toggle, List.length_nil]; omega
theorem m_app (s : S) (e : Ev) (he : ∀ x n, e = .elem x n → x.len ≤ 1) (h1 : 1 ≤ e.len) : (e.app s).m ≤ s.m + e.len := by
 cases e with
 | letter c n => simp only [Ev.app, S.letter, S.m, List.length_append, List.length_singleton, Ev.len] at h1 ⊢; omega
 | elem x n =>
   have h2 := tot_flush s.stk s.pend
   have h3 := tot_addTop x (flush s.stk s.pend)
   have h4 := he x n rfl
   simp only [Ev.app, S.add, S.m, List.length_nil, Ev.len] at h1 ⊢; omega
 | skip n => simp only [Ev.app, Ev.len]; omega
 | quotes n =>
   simp only [Ev.app, S.quotes, Ev.len]
   have ha : (S.mk s.stk (s.pend ++ List.replicate (n - left n) 39)).m ≤ s.m + n := by
    simp only [S.m, List.length_append, List.length_replicate]; omega
   split
   ·split
    ·exact Nat.le_trans (m_toggle _ _) (Nat.le_trans (m_toggle _ _) ha)
    ·exact Nat.le_trans (m_toggle _ _) ha
   ·split
    ·exact Nat.le_trans (m_toggle _ _) ha
    ·exact ha
end Go.Proofs.YthieinfonomeeaaGreatDoor.Inl
namespace Go.Proofs.YthieinfonomeeaaGreatDoor.Blk
open Doc Tit Inl
set_option linter.unusedVariables false
abbrev Line := List UInt8
def onto (c : UInt8) : List Line → List Line
 | [] => [[c]]
 | a :: l => (c :: a) :: l
def spl (c : UInt8) : Line → List Line
 | [] => [[]]
 | x :: s => if x = c then [] :: spl c s else onto x (spl c s)
def spl2 (a : UInt8) : Line → List Line
 | [] => [[]]
 | [x] => [[x]]
 | x :: y :: s => if x = a ∧ y = a then [] :: spl2 a s else onto x (spl2 a (y :: s))
def lines (s : Line) : List Line := spl 10 s
def bt (c : UInt8) : Bool := c == 9 || c == 32
def rtrim (p : UInt8 → Bool) (l : Line) : Line := (l.reverse.dropWhile p).reverse
def eqs (l : Line) : Nat := (l.takeWhile (· = 61)).length
def emptyL (l : Line) : Bool := l.all ws4
def hdT (t : Line) : Option (Nat × Line) :=
 if eqs t = 0 ∨ eqs t.reverse = 0 ∨ eqs t = t.length then none
 else if trimW bt ((t.drop (min 6 (min (eqs t) (eqs t.reverse)))).take (t.length - min 6 (min (eqs t) (eqs t.reverse)) - min 6 (min (eqs t) (eqs t.reverse)))) = [] then none
 else some (min 6 (min (eqs t) (eqs t.reverse)), trimW bt ((t.drop (min 6 (min (eqs t) (eqs t.reverse)))).take (t.length - min 6 (min (eqs t) (eqs t.reverse)) - min 6 (min (eqs t) (eqs t.reverse)))))
def hd (l : Line) : Option (Nat × Line) := hdT (rtrim bt l)
def w3 (c : UInt8) : Bool := c == 9 || c == 13 || c == 32
def ruleL (l : Line) : Bool := decide (4 ≤ (l.takeWhile (· = 45)).length) && (l.dropWhile (· = 45)).all w3
def star (c : UInt8) : Bool := c == 42 || c == 35
def listL (l : Line) : Bool := match l with | [] => false | c :: _ => star c
def codeL (l : Line) : Bool := match l with | [] => false | c :: _ => c == 32
def kindL (l : Line) : Nat :=
 if emptyL l then 0 else if Lib.hasPrefix l [123, 124] then 1 else if (hd l).isSome then 2 else if ruleL l then 3 else if listL l then 4 else if codeL l then 5 else 6
def joinL : List Line → Line
 | [] => []
 | [a] => a
 | a :: b :: r => a ++ [10] ++ joinL (b :: r)
def blk (k l : Int) (t : Line) (i : Ins) (kids : Bls) : Bls := .cons k l ⟨t.toArray⟩ i kids .nil
structure It where
 pre : Line
 txt : Line
def item (l : Line) : It := ⟨l.takeWhile star, trimW ws4 (l.dropWhile star)⟩
def runN (d : Nat) (c : Option UInt8) (l : List It) : Nat := (l.takeWhile fun y => y.pre[d]? == c).length
def deepN (d : Nat) (l : List It) : Nat := (l.takeWhile fun y => decide (d + 1 < y.pre.length)).length
mutual
def listsF : Nat → Nat → List It → Bls
 | 0, _, _ => .nil
 | _ + 1, _, [] => .nil
 | f + 1, d, x :: r => (blk 3 (if x.pre[d]? = some 35 then 1 else 0) [] .nil (itemsF f d ((x :: r).take (runN d x.pre[d]? r + 1)))).app (listsF f d ((x :: r).drop (runN d x.pre[d]? r + 1)))
def itemsF : Nat → Nat → List It → Bls
 | 0, _, _ => .nil
 | _ + 1, _, [] => .nil
 | f + 1, d, x :: r =>
   if x.pre.length = d + 1 then (blk 4 0 [] (read x.txt) (listsF f (d + 1) (r.take (deepN d r)))).app (itemsF f d (r.drop (deepN d r)))
   else (blk 4 0 [] .nil (listsF f (d + 1) ((x :: r).take (deepN d (x :: r))))).app (itemsF f d ((x :: r).drop (deepN d (x :: r))))
end
def sumD (d : Nat) (l : List It) : Nat := (l.map fun y => y.pre.length - d).foldr (· + ·) 0
def lists (d : Nat) (l : List It) : Bls := listsF (4 * sumD d l + 2) d l
abbrev Cell := Nat × Line
structure Tab where
 rows : List (List Cell)
 row : List Cell
def moreT (l : Line) : List Cell → List Cell
 | [] => []
 | [(k, t)] => [(k, t ++ [10] ++ l)]
 | a :: b :: r => a :: moreT l (b :: r)
def tabStep (s : Tab) (l : Line) : Tab :=
 if Lib.hasPrefix l [124, 45] then ⟨s.rows ++ [s.row], []⟩
 else if Lib.hasPrefix l [124] then ⟨s.rows, s.row ++ (spl2 124 (l.drop 1)).map (fun t => (0, t))⟩
 else if Lib.hasPrefix l [33] then ⟨s.rows, s.row ++ (spl2 33 (l.drop 1)).map (fun t => (1, t))⟩
 else ⟨s.rows, moreT l s.row⟩
def cellsB : List Cell → Bls
 | [] => .nil
 | (k, t) :: r => .cons 9 (k : Int) ⟨#[]⟩ (read (trimW ws4 t)) .nil (cellsB r)
def rowsB : List (List Cell) → Bls
 | [] => .nil
 | c :: r => if c = [] then rowsB r else .cons 8 0 ⟨#[]⟩ .nil (cellsB c) (rowsB r)
def tabOf (l : List Line) : List (List Cell) := let s := l.foldl tabStep ⟨[], []⟩; s.rows ++ [s.row]
def tableB (l : List Line) : Bls := blk 7 0 [] .nil (rowsB (tabOf l))
def firstB : List Line → Bls × Nat
 | [] => (.nil, 1)
 | x :: r =>
   if kindL x = 0 then (.nil, 1)
   else if kindL x = 1 then (tableB (r.takeWhile fun l => !(Lib.hasPrefix l [124, 125])), min ((r.takeWhile fun l => !(Lib.hasPrefix l [124, 125])).length + 2) (r.length + 1))
   else if kindL x = 2 then (blk 1 ((hd x).getD (0, [])).1 [] (read ((hd x).getD (0, [])).2) .nil, 1)
   else if kindL x = 3 then (blk 5 0 [] .nil .nil, 1)
   else if kindL x = 4 then (lists 0 ((x :: r.takeWhile listL).map item), (r.takeWhile listL).length + 1)
   else if kindL x = 5 then (blk 6 0 (dec (joinL ((x :: r.takeWhile fun l => !(emptyL l) && codeL l).map (·.drop 1)))) .nil .nil, (r.takeWhile fun l => !(emptyL l) && codeL l).length + 1)
   else (blk 2 0 [] (read (joinL (x :: r.takeWhile fun l => decide (kindL l = 6)))) .nil, (r.takeWhile fun l => decide (kindL l = 6)).length + 1)
def blocksF : Nat → List Line → Bls
 | 0, _ => .nil
 | _ + 1, [] => .nil
 | f + 1, x :: r => (firstB (x :: r)).1.app (blocksF f ((x :: r).drop (firstB (x :: r)).2))
def blocks (s : Line) : Bls := blocksF (lines s).length (lines s)
end Go.Proofs.YthieinfonomeeaaGreatDoor.Blk
namespace Go.Proofs.YthieinfonomeeaaGreatDoor.Inl
open Doc Tit
set_option linter.unusedVariables false
theorem decF_fuel : ∀ (f g : Nat) (l : List UInt8), l.length ≤ f → l.length ≤ g → decF f l = decF g l
 | 0, 0, _, _, _ => rfl
 | 0, g + 1, l, h, _ => by
   have : l = [] := List.length_eq_zero_iff.1 (by omega)
   subst this; rfl
 | f + 1, 0, l, _, h => by
   have : l = [] := List.length_eq_zero_iff.1 (by omega)
   subst this; rfl
 | f + 1, g + 1, [], _, _ => rfl
 | f + 1, g + 1, c :: r, h1, h2 => by
   rw [decF, decF]
   simp only [List.length_cons] at h1 h2
   cases he : ent (c :: r) with
   | none => simp only []; rw [decF_fuel f g r (by omega) (by omega)]
   | some y =>
     obtain ⟨x, n⟩ := y
     have hl := (ent_len he).1
     simp only []
     rw [decF_fuel f g _ (by rw [List.length_drop]; simp only [List.length_cons]; omega) (by rw [List.length_drop]; simp only [List.length_cons]; omega)]
theorem dec_nil : dec [] = [] := rfl
theorem dec_some {l : List UInt8} {x : UInt8} {n : Nat} (h : ent l = some (x, n)) : dec l = x :: dec (l.drop n) := by
 have hl := ent_len h
 cases l with
 | nil => simp at hl; omega
 | cons c r =>
   unfold dec
   rw [List.length_cons, decF, h]
   simp only []
   rw [decF_fuel r.length ((c :: r).drop n).length _ (by rw [List.length_drop]; simp only [List.length_cons]; omega) (Nat.le_refl _)]
theorem dec_none {c : UInt8} {r : List UInt8} (h : ent (c :: r) = none) : dec (c :: r) = c :: dec r := by
 unfold dec
 rw [List.length_cons, decF, h]
def more (c : UInt8) : Ins → Ins
 | .nil => .nil
 | .cons a t s n h k .nil => .cons a ⟨(t.data.toList ++ [c]).toArray⟩ s n h k .nil
 | .cons a t s n h k r => .cons a t s n h k (more c r)
end Go.Proofs.YthieinfonomeeaaGreatDoor.Inl
namespace Go.Proofs.YthieinfonomeeaaGreatDoor.Inl
open Tit
set_option linter.unusedVariables false
theorem num_snoc (l : List UInt8) (c : UInt8) : num (l ++ [c]) = num l * 10 + (c.toNat - 48) := by unfold num; rw [List.foldl_append]; rfl
theorem num_fold : ∀ (l : List UInt8) (n k : Nat), (∀ c ∈ l, dg c = true) → n < 10 ^ k → l.foldl (fun n c => n * 10 + (c.toNat - 48)) n < 10 ^ (k + l.length)
 | [], n, k, _, h => h
 | c :: r, n, k, h, hn => by
   have h2 := h c (by simp)
   unfold dg at h2
   rw [Bool.and_eq_true, decide_eq_true_eq, decide_eq_true_eq] at h2
   rw [List.foldl_cons, List.length_cons, show k + (r.length + 1) = (k + 1) + r.length by omega]
   exact num_fold r _ _ (fun x hx => h x (by simp [hx])) (by rw [Nat.pow_succ]; omega)
theorem num_le (l : List UInt8) (h : ∀ c ∈ l, dg c = true) : num l < 10 ^ l.length := by
 have := num_fold l 0 0 h (by decide)
 rwa [Nat.zero_add] at this
theorem tw_all {p : UInt8 → Bool} : ∀ (l : List UInt8), ∀ c ∈ l.takeWhile p, p c = true
 | [], c, h => by simp at h
 | a :: r, c, h => by
   rw [List.takeWhile_cons] at h
   cases ha : p a with
   | true =>
     rw [ha] at h
     rcases List.mem_cons.1 h with rfl | h
     ·exact ha
     ·exact tw_all r c h
   | false => rw [ha] at h; simp at h
theorem dg_eq (c : UInt8) : dg c = (decide (48 ≤ c.toNat) && decide (c.toNat ≤ 57)) := rfl
theorem entN_read (r : List UInt8) (m : Nat) (hm : m ≤ 3) (hl : m ≤ r.length) (h1 : ∀ c ∈ r.take m, dg c = true) (h2 : m < 3 → ∀ h : m < r.length, dg r[m] = false) :
  entN r = if 1 ≤ m ∧ r[m]? = some 59 ∧ 1 ≤ num (r.take m) ∧ num (r.take m) ≤ 255 then some (UInt8.ofNat (num (r.take m)), m + 3) else none := by
 have h59 : dg 59 = false := by decide
 have hp : ∀ (k : Nat) (hk : k ≤ r.length), (∀ c ∈ r.take k, dg c = true) → k ≤ (r.takeWhile dg).length := by
  intro k hk hh
  rw [← List.take_append_drop k r, List.takeWhile_append_of_pos hh, List.length_append, List.length_take]
  omega
 have hD := hp m hl h1
 have htk : ∀ k, k ≤ (r.takeWhile dg).length → r.take k = (r.takeWhile dg).take k := by
  intro k hk
  have := (List.takeWhile_prefix (p := dg) (l := r))
  obtain ⟨t, ht⟩ := this
  rw [← ht, List.take_append_of_le_length hk]
  rw [ht]
 by_cases e : (r.takeWhile dg).length = m
 ·have e2 : r.takeWhile dg = r.take m := by rw [htk m hD, ← e, List.take_length]
  unfold entN
  rw [e, e2]
  by_cases hc : 1 ≤ m ∧ r[m]? = some 59 ∧ 1 ≤ num (r.take m) ∧ num (r.take m) ≤ 255
  ·rw [if_pos hc, if_pos ⟨hc.1, hm, hc.2.1, hc.2.2.1, hc.2.2.2⟩]
  ·rw [if_neg hc, if_neg (fun h => hc ⟨h.1, h.2.2.1, h.2.2.2.1, h.2.2.2.2⟩)]
 ·have hlt : m < (r.takeWhile dg).length := by omega
  have hlr : m < r.length := Nat.lt_of_lt_of_le hlt (tw_le _ _)
  have hdm : dg r[m] = true := by
   have hmem : r[m] ∈ r.takeWhile dg := by
    have h3 := htk (m + 1) hlt
    have h4 : r[m] ∈ r.take (m + 1) := by
     rw [List.mem_take_iff_getElem]
     exact ⟨m, by omega, rfl⟩
    rw [h3] at h4
    exact List.mem_of_mem_take h4
   exact tw_all _ _ hmem
  have hm3 : m = 3 := by
   by_cases h : m < 3
   ·rw [h2 h hlr] at hdm; cases hdm
   ·omega
  have hne : r[m]? ≠ some 59 := by
   rw [List.getElem?_eq_getElem hlr]
   intro h
   injection h with h
   rw [h, h59] at hdm; cases hdm
  unfold entN
  rw [if_neg (by omega), if_neg (fun h => hne h.2.1)]
end Go.Proofs.YthieinfonomeeaaGreatDoor.Inl
namespace Go.Proofs.YthieinfonomeeaaGreatDoor.Inl
open Doc Tit
set_option linter.unusedVariables false
theorem endN_snoc : ∀ (n : Nat) (st : Stk), endN (n + 1) st = endT (endN n st)
 | 0, st => rfl
 | n + 1, st => by
   rw [endN, endN_snoc n (endT st)]
   rfl
theorem addTop_length (x : Ins) : ∀ st : Stk, (addTop x st).length = st.length
 | [] => rfl
 | (k, l) :: r => rfl
theorem endT_length {st : Stk} (h : 2 ≤ st.length) : (endT st).length = st.length - 1 := by
 match st, h with
 | (k, l) :: r, h =>
   rw [endT]
   split
   ·simp
   ·rw [addTop_length]; simp
theorem endN_length : ∀ (n : Nat) (st : Stk), n < st.length → (endN n st).length = st.length - n
 | 0, st, _ => by simp [endN]
 | n + 1, st, h => by
   rw [endN_snoc, endT_length (by rw [endN_length n st (by omega)]; omega), endN_length n st (by omega)]
   omega
theorem len_tot {k : Int} {l : Ins} : ∀ {st : Stk}, (k, l) ∈ st → l.len ≤ tot st
 | (k', l') :: r, h => by
   rcases List.mem_cons.1 h with h | h
   ·injection h with h1 h2; subst h2; simp [tot]
   ·have := len_tot h; simp only [tot]; omega
theorem reopen_eq : ∀ (l : List Int) (st : Stk), reopen l st = l.map (fun k => (k, Ins.nil)) ++ st
 | [], st => rfl
 | k :: r, st => by rw [reopen, reopen_eq r st]; rfl
theorem tw_self {α : Type} {p : α → Bool} : ∀ {l : List α}, (∀ x ∈ l, p x = true) → l.takeWhile p = l
 | [], _ => rfl
 | a :: r, h => by
   rw [List.takeWhile_cons_of_pos (h a (List.mem_cons_self ..)), tw_self fun x hx => h x (List.mem_cons_of_mem _ hx)]
theorem toggle_none {k : Int} {L : List (Int × Ins)} (h : ∀ x ∈ L, x.1 ≠ k) : toggle k L.reverse = (k, .nil) :: L.reverse := by
 have e : later k L.reverse = L.reverse.map (·.1) := by
  unfold later
  rw [tw_self]
  intro x hx
  simpa using h x (List.mem_reverse.1 hx)
 unfold toggle
 rw [e, if_pos (by simp)]
theorem toggle_at {k : Int} {A C : List (Int × Ins)} {l : Ins} (h : ∀ x ∈ C, x.1 ≠ k) :
  (toggle k (A ++ (k, l) :: C).reverse).reverse = (endN (C.length + 1) (A ++ (k, l) :: C).reverse).reverse ++ (C.map (·.1)).map (fun k => (k, Ins.nil)) := by
 have e0 : (A ++ (k, l) :: C).reverse = C.reverse ++ (k, l) :: A.reverse := by simp
 have e : later k (A ++ (k, l) :: C).reverse = C.reverse.map (·.1) := by
  unfold later
  rw [e0, List.takeWhile_append_of_pos (by intro x hx; simpa using h x (List.mem_reverse.1 hx)), List.takeWhile_cons_of_neg (by simp)]
  simp
 unfold toggle
 rw [e, if_neg (by simp), reopen_eq]
 simp
end Go.Proofs.YthieinfonomeeaaGreatDoor.Inl
namespace Go.Proofs.YthieinfonomeeaaGreatDoor.Inl
open Doc Tit
set_option linter.unusedVariables false
theorem mem_sqF {x : UInt8} : ∀ (s out : List UInt8), x ∈ sqF out s → x ∈ out ∨ ∃ c ∈ s, unb c = x
 | [], out, h => .inl h
 | c :: r, out, h => by
   rw [sqF] at h
   split at h
   ·rcases mem_sqF r out h with h | ⟨d, h1, h2⟩
    ·exact .inl h
    ·exact .inr ⟨d, List.mem_cons_of_mem _ h1, h2⟩
   ·rcases mem_sqF r _ h with h | ⟨d, h1, h2⟩
    ·rcases List.mem_append.1 h with h | h
     ·exact .inl h
     ·exact .inr ⟨c, List.mem_cons_self .., (List.mem_singleton.1 h).symm⟩
    ·exact .inr ⟨d, List.mem_cons_of_mem _ h1, h2⟩
theorem mem_chop {x : UInt8} {l : List UInt8} (h : x ∈ chop l) : x ∈ l := by
 unfold chop at h
 split at h
 ·exact (List.dropLast_sublist l).subset h
 ·exact h
theorem mem_dropOne {x : UInt8} {l : List UInt8} (h : x ∈ dropOne l) : x ∈ l := by
 unfold dropOne at h
 split at h
 ·exact List.mem_of_mem_tail h
 ·exact h
theorem mem_rawS {x : UInt8} {l : List UInt8} (h : x ∈ rawS l) : x ∈ sq l := by
 unfold rawS at h
 split at h
 ·exact List.mem_of_mem_tail (mem_dropOne h)
 ·exact h
theorem tw_self_mem {c : UInt8} : ∀ {l : List UInt8}, ¬ (l.takeWhile (· ≠ c)).length = l.length → c ∈ l
 | [], h => absurd rfl h
 | a :: r, h => by
   by_cases e : a = c
   ·subst e; exact List.mem_cons_self ..
   ·refine List.mem_cons_of_mem _ (tw_self_mem (fun h2 => h ?_))
    rw [List.takeWhile_cons_of_pos (by simpa using e)]
    simp only [List.length_cons, h2]
theorem parse_colon {s : List UInt8} (h : (parse s).1 ≠ 0) : 58 ∈ s := by
 have h1 : (rawT s).1 ≠ 0 := by
  intro e
  unfold parse at h
  split at h
  ·exact h rfl
  ·split at h
   ·exact h e
   ·exact h rfl
 have h2 : ∃ y, pre (rawS s) = some y := by
  unfold rawT at h1
  cases hp : pre (rawS s) with
  | none => rw [hp] at h1; exact absurd rfl h1
  | some y => exact ⟨y, rfl⟩
 obtain ⟨y, hy⟩ := h2
 have h3 : (58 : UInt8) ∈ rawS s := by
  unfold pre at hy
  split at hy
  ·cases hy
  ·rename_i hne
   exact tw_self_mem hne
 have h4 := mem_chop (mem_rawS h3)
 rcases mem_sqF _ _ h4 with h5 | ⟨c, h5, h6⟩
 ·cases h5
 ·unfold unb at h6
  split at h6
  ·cases h6
  ·rw [← h6]; exact h5
theorem not_blank {l : List UInt8} (h : 58 ∈ l) : (l.takeWhile bl3).length < l.length := by
 induction l with
 | nil => cases h
 | cons a r ih =>
   rw [List.takeWhile_cons]
   cases hb : bl3 a with
   | false => simp
   | true =>
     rcases List.mem_cons.1 h with e | e
     ·rw [← e] at hb; cases hb
     ·have := ih e
      simp only [if_true, List.length_cons]
      omega
end Go.Proofs.YthieinfonomeeaaGreatDoor.Inl
namespace Go.Proofs.YthieinfonomeeaaGreatDoor.Inl
open Doc Tit
set_option linter.unusedVariables false
theorem hp_cons (a b : UInt8) (p r : List UInt8) : Lib.hasPrefix (a :: r) (b :: p) = ((b == a) && Lib.hasPrefix r p) := rfl
theorem hp_other {a b : UInt8} (h : a ≠ b) (p r : List UInt8) : Lib.hasPrefix (a :: r) (b :: p) = false := by
 rw [hp_cons]
 have : (b == a) = false := by simpa using fun e : b = a => h e.symm
 rw [this]; rfl
theorem link_other {P : List UInt8 → Ins} {c : UInt8} {r : List UInt8} (h : c ≠ 91) : linkE P (c :: r) = none := by
 unfold linkE; rw [hp_other h]; rfl
theorem note_other {P : List UInt8 → Ins} {c : UInt8} {r : List UInt8} (h : c ≠ 60) : noteE P (c :: r) = none := by
 unfold noteE bRefG bRefN; rw [hp_other h, hp_other h]; rfl
theorem br_other {c : UInt8} {r : List UInt8} (h : c ≠ 60) : Lib.hasPrefix (c :: r) bBr = false := by unfold bBr; exact hp_other h _ _
theorem ent_other {c : UInt8} {r : List UInt8} (h : c ≠ 38) : ent (c :: r) = none := by
 unfold ent eLt eGt eAmp eQuot
 rw [hp_other h, hp_other h, hp_other h, hp_other h, hp_other h]; rfl
theorem quote_other {c : UInt8} {r : List UInt8} (h : c ≠ 39) : Lib.hasPrefix (c :: r) [39, 39] = false := hp_other h _ _
theorem br_note {P : List UInt8 → Ins} {l : List UInt8} (h : Lib.hasPrefix l bBr = true) : noteE P l = none := by
 match l, h with
 | [], h => cases h
 | [a], h => simp [bBr, Lib.hasPrefix] at h
 | a :: b :: r, h =>
   unfold bBr at h
   rw [hp_cons, hp_cons, Bool.and_eq_true, Bool.and_eq_true] at h
   have hb : b = 98 := (by simpa using h.2.1 : 98 = b).symm
   subst hb
   have h1 : ∀ p, Lib.hasPrefix (a :: 98 :: r) (60 :: 114 :: p) = false := fun p => by
    rw [hp_cons, hp_other (by decide)]; simp
   unfold noteE bRefG bRefN
   rw [h1, h1]; rfl
theorem quote_two (r : List UInt8) : Lib.hasPrefix (39 :: r) [39, 39] = decide (2 ≤ ((39 :: r).takeWhile (· = 39)).length) := by
 rw [hp_cons]
 cases r with
 | nil => rfl
 | cons b r =>
   rw [hp_cons]
   by_cases h : b = 39
   ·subst h; simp; rfl
   ·have e : (39 == b) = false := by simpa using fun e : 39 = b => h e.symm
    rw [e]
    simp [h]
def evR (P : List UInt8 → Ins) (c : UInt8) (r : List UInt8) : Ev :=
 match linkE P (c :: r) with
 | some (none, n) => .skip n
 | some (some x, n) => .elem x n
 | none => match noteE P (c :: r) with
   | some (x, n) => .elem x n
   | none => if Lib.hasPrefix (c :: r) bBr then .elem (el 6 [] .nil) 4 else match ent (c :: r) with
     | some (x, n) => .letter x n
     | none => if Lib.hasPrefix (c :: r) [39, 39] then .quotes ((c :: r).takeWhile (· = 39)).length else .letter c 1
theorem ev_ref (P : List UInt8 → Ins) (c : UInt8) (r : List UInt8) : ev P c r = evR P c r := by
 unfold ev evR
 by_cases h1 : c = 91
 ·subst h1
  rw [if_pos rfl, note_other (by decide), br_other (by decide), ent_other (by decide), quote_other (by decide)]
  cases h : linkE P (91 :: r) with
  | none => rfl
  | some y => obtain ⟨x, n⟩ := y; cases x <;> rfl
 ·rw [if_neg h1, link_other h1]
  by_cases h2 : c = 60
  ·subst h2
   rw [if_pos rfl, ent_other (by decide), quote_other (by decide)]
   cases hb : Lib.hasPrefix (60 :: r) bBr with
   | true => rw [br_note hb]; rfl
   | false =>
     cases h : noteE P (60 :: r) with
     | none => rfl
     | some y => rfl
  ·rw [if_neg h2, note_other h2, br_other h2]
   by_cases h3 : c = 38
   ·subst h3
    rw [if_pos rfl, quote_other (by decide)]
    cases h : ent (38 :: r) with
    | none => rfl
    | some y => rfl
   ·rw [if_neg h3, ent_other h3]
    by_cases h4 : c = 39
    ·subst h4
     rw [if_pos rfl, quote_two]
     unfold ofQuotes
     by_cases h5 : ((39 :: r).takeWhile (· = 39)).length < 2
     ·rw [if_pos h5, decide_eq_false (by omega)]; rfl
     ·rw [if_neg h5, decide_eq_true (by omega)]; rfl
    ·rw [if_neg h4, quote_other h4]; rfl
theorem linkC_len {P : List UInt8 → Ins} {c : List UInt8} {x : Ins} (h : linkC P c = some (some x)) : x.len = 1 := by
 unfold linkC at h
 split at h
 ·split at h
  ·cases h
  ·split at h
   ·cases h
   ·injection h with h; injection h with h; rw [← h]; rfl
 ·injection h with h; injection h with h; rw [← h]; rfl
theorem link_len1 {P : List UInt8 → Ins} {l : List UInt8} {x : Ins} {n : Nat} (h : linkE P l = some (some x, n)) : x.len = 1 := by
 unfold linkE at h
 split at h
 ·split at h
  ·cases h
  ·dsimp only at h
   split at h
   ·cases h
   ·cases hc : linkC P ((l.drop 2).take (Lib.index (l.drop 2) [93, 93]).toNat) with
    | none => rw [hc] at h; cases h
    | some y =>
      rw [hc] at h
      injection h with h
      injection h with h _
      subst h
      exact linkC_len hc
 ·cases h
theorem noteC_len1 {P : List UInt8 → Ins} {nm l : List UInt8} {k n : Nat} {x : Ins} (h : noteC P nm k l = some (x, n)) : x.len = 1 := by
 unfold noteC at h
 split at h
 ·cases h
 ·dsimp only at h
  split at h
  ·cases h
  ·injection h with h; injection h with h _; rw [← h]; rfl
theorem note_len1 {P : List UInt8 → Ins} {l : List UInt8} {x : Ins} {n : Nat} (h : noteE P l = some (x, n)) : x.len = 1 := by
 unfold noteE at h
 split at h
 ·exact noteC_len1 h
 ·split at h
  ·dsimp only at h
   split at h
   ·cases h
   ·split at h
    ·injection h with h; injection h with h _; rw [← h]; rfl
    ·split at h
     ·exact noteC_len1 h
     ·cases h
  ·cases h
end Go.Proofs.YthieinfonomeeaaGreatDoor.Inl
namespace Go.Proofs.YthieinfonomeeaaGreatDoor.Blk
open Doc Tit Inl
set_option linter.unusedVariables false
def Deep (d : Nat) (l : List It) : Prop := ∀ y ∈ l, d < y.pre.length
theorem sumD_nil (d : Nat) : sumD d [] = 0 := rfl
theorem sumD_cons (d : Nat) (x : It) (r : List It) : sumD d (x :: r) = (x.pre.length - d) + sumD d r := rfl
theorem sumD_app (d : Nat) : ∀ a b : List It, sumD d (a ++ b) = sumD d a + sumD d b
 | [], b => by rw [sumD_nil]; simp
 | x :: r, b => by rw [List.cons_append, sumD_cons, sumD_cons, sumD_app d r b, Nat.add_assoc]
theorem sumD_split (d n : Nat) (l : List It) : sumD d (l.take n) + sumD d (l.drop n) = sumD d l := by rw [← sumD_app, List.take_append_drop]
theorem sumD_pos {d : Nat} {x : It} {r : List It} (h : Deep d (x :: r)) : 1 ≤ sumD d (x :: r) := by
 have := h x List.mem_cons_self
 rw [sumD_cons]; omega
theorem sumD_succ (d : Nat) : ∀ l : List It, Deep d l → sumD (d + 1) l + l.length = sumD d l
 | [], _ => rfl
 | x :: r, h => by
   have h1 := h x List.mem_cons_self
   have ih := sumD_succ d r fun y hy => h y (List.mem_cons_of_mem _ hy)
   rw [sumD_cons, sumD_cons, List.length_cons]
   omega
theorem Deep.take {d : Nat} {l : List It} (h : Deep d l) (n : Nat) : Deep d (l.take n) := fun y hy => h y (List.mem_of_mem_take hy)
theorem Deep.drop {d : Nat} {l : List It} (h : Deep d l) (n : Nat) : Deep d (l.drop n) := fun y hy => h y (List.mem_of_mem_drop hy)
theorem Deep.tail {d : Nat} {x : It} {l : List It} (h : Deep d (x :: l)) : Deep d l := fun y hy => h y (List.mem_cons_of_mem _ hy)
theorem deep_take {d : Nat} : ∀ (l : List It), Deep (d + 1) (l.take (deepN d l))
 | [] => fun y hy => by simp at hy
 | x :: r => by
   unfold deepN
   rw [List.takeWhile_cons]
   split
   ·rename_i h
    intro y hy
    rw [List.length_cons, List.take_succ_cons] at hy
    rcases List.mem_cons.1 hy with rfl | hy
    ·simpa using h
    ·exact deep_take r y hy
   ·intro y hy; simp at hy
theorem deepN_le (d : Nat) (l : List It) : deepN d l ≤ l.length := by
 have h := congrArg List.length (List.takeWhile_append_dropWhile (p := fun y : It => decide (d + 1 < y.pre.length)) (l := l))
 rw [List.length_append] at h
 unfold deepN
 omega
theorem runN_le (d : Nat) (c : Option UInt8) (l : List It) : runN d c l ≤ l.length := by
 have h := congrArg List.length (List.takeWhile_append_dropWhile (p := fun y : It => y.pre[d]? == c) (l := l))
 rw [List.length_append] at h
 unfold runN
 omega
theorem deepN_pos {d : Nat} {x : It} {r : List It} (h : d + 1 < x.pre.length) : deepN d (x :: r) = deepN d r + 1 := by
 unfold deepN
 rw [List.takeWhile_cons, if_pos (by simpa using h)]
 rfl
theorem listsF_nil (f d : Nat) : listsF f d [] = .nil := by cases f <;> simp [listsF]
theorem itemsF_nil (f d : Nat) : itemsF f d [] = .nil := by cases f <;> simp [itemsF]
theorem listsF_cons (f d : Nat) (x : It) (r : List It) : listsF (f + 1) d (x :: r) = (blk 3 (if x.pre[d]? = some 35 then 1 else 0) [] .nil (itemsF f d ((x :: r).take (runN d x.pre[d]? r + 1)))).app (listsF f d ((x :: r).drop (runN d x.pre[d]? r + 1))) := by rw [listsF]
theorem itemsF_head (f d : Nat) (x : It) (r : List It) (h : x.pre.length = d + 1) : itemsF (f + 1) d (x :: r) = (blk 4 0 [] (read x.txt) (listsF f (d + 1) (r.take (deepN d r)))).app (itemsF f d (r.drop (deepN d r))) := by rw [itemsF, if_pos h]
theorem itemsF_deep (f d : Nat) (x : It) (r : List It) (h : ¬ x.pre.length = d + 1) : itemsF (f + 1) d (x :: r) = (blk 4 0 [] .nil (listsF f (d + 1) ((x :: r).take (deepN d (x :: r))))).app (itemsF f d ((x :: r).drop (deepN d (x :: r)))) := by rw [itemsF, if_neg h]
theorem fuel_both : ∀ N : Nat,
  (∀ f g d l, 2 * sumD d l ≤ N → 2 * sumD d l ≤ f → 2 * sumD d l ≤ g → Deep d l → listsF f d l = listsF g d l) ∧
  (∀ f g d l, 2 * sumD d l ≤ N + 1 → 2 * sumD d l ≤ f + 1 → 2 * sumD d l ≤ g + 1 → Deep d l → itemsF f d l = itemsF g d l)
 | 0 => by
   constructor
   ·intro f g d l h _ _ hd
    cases l with
    | nil => rw [listsF_nil, listsF_nil]
    | cons x r => have := sumD_pos hd; omega
   ·intro f g d l h _ _ hd
    cases l with
    | nil => rw [itemsF_nil, itemsF_nil]
    | cons x r => have := sumD_pos hd; omega
 | N + 1 => by
   obtain ⟨ihL, ihI⟩ := fuel_both N
   constructor
   ·intro f g d l h hf hg hd
    cases l with
    | nil => rw [listsF_nil, listsF_nil]
    | cons x r =>
      have h1 := sumD_pos hd
      obtain ⟨f, rfl⟩ : ∃ k, f = k + 1 := ⟨f - 1, by omega⟩
      obtain ⟨g, rfl⟩ : ∃ k, g = k + 1 := ⟨g - 1, by omega⟩
      rw [listsF_cons, listsF_cons]
      generalize hn : runN d x.pre[d]? r = n
      have hs := sumD_split d (n + 1) (x :: r)
      have ht : 1 ≤ sumD d ((x :: r).take (n + 1)) := by rw [List.take_succ_cons, sumD_cons]; have := hd x List.mem_cons_self; omega
      rw [ihI f g d _ (by omega) (by omega) (by omega) (hd.take _)]
      have h2 : listsF f d ((x :: r).drop (n + 1)) = listsF g d ((x :: r).drop (n + 1)) := ihL f g d _ (by omega) (by omega) (by omega) (hd.drop _)
      rw [h2]
   ·intro f g d l h hf hg hd
    cases l with
    | nil => rw [itemsF_nil, itemsF_nil]
    | cons x r =>
      have h1 := sumD_pos hd
      obtain ⟨f, rfl⟩ : ∃ k, f = k + 1 := ⟨f - 1, by omega⟩
      obtain ⟨g, rfl⟩ : ∃ k, g = k + 1 := ⟨g - 1, by omega⟩
      by_cases hx : x.pre.length = d + 1
      ·rw [itemsF_head f d x r hx, itemsF_head g d x r hx]
       generalize hn : deepN d r = n
       have hs := sumD_split d n r
       have hsc := sumD_cons d x r
       have h3 := sumD_succ d (r.take n) (hd.tail.take n)
       have h4 : Deep (d + 1) (r.take n) := by rw [← hn]; exact deep_take r
       rw [ihL f g (d + 1) _ (by omega) (by omega) (by omega) h4]
       rw [ihI f g d _ (by omega) (by omega) (by omega) (hd.tail.drop n)]
      ·have hx2 : d + 1 < x.pre.length := by have := hd x List.mem_cons_self; omega
       rw [itemsF_deep f d x r hx, itemsF_deep g d x r hx]
       have hnp := deepN_pos (r := r) hx2
       generalize hn : deepN d (x :: r) = n at *
       have hs := sumD_split d n (x :: r)
       have h3 := sumD_succ d ((x :: r).take n) (hd.take n)
       have h4 : Deep (d + 1) ((x :: r).take n) := by rw [← hn]; exact deep_take _
       have hl : 1 ≤ ((x :: r).take n).length := by rw [hnp]; simp
       rw [ihL f g (d + 1) _ (by omega) (by omega) (by omega) h4]
       rw [ihI f g d _ (by omega) (by omega) (by omega) (hd.drop n)]
def LI (d : Nat) (l : List It) : Bls := listsF (2 * sumD d l) d l
def IT (d : Nat) (l : List It) : Bls := itemsF (2 * sumD d l) d l
theorem LI_of {f d : Nat} {l : List It} (hd : Deep d l) (h : 2 * sumD d l ≤ f) : listsF f d l = LI d l := (fuel_both (2 * sumD d l)).1 _ _ _ _ (Nat.le_refl _) h (Nat.le_refl _) hd
theorem IT_of {f d : Nat} {l : List It} (hd : Deep d l) (h : 2 * sumD d l ≤ f + 1) : itemsF f d l = IT d l := (fuel_both (2 * sumD d l)).2 _ _ _ _ (by omega) h (by omega) hd
theorem lists_eq {d : Nat} {l : List It} (hd : Deep d l) : lists d l = LI d l := LI_of hd (by omega)
theorem LI_nil (d : Nat) : LI d [] = .nil := listsF_nil _ _
theorem IT_nil (d : Nat) : IT d [] = .nil := itemsF_nil _ _
theorem LI_cons {d : Nat} {x : It} {r : List It} (hd : Deep d (x :: r)) :
  LI d (x :: r) = (blk 3 (if x.pre[d]? = some 35 then 1 else 0) [] .nil (IT d ((x :: r).take (runN d x.pre[d]? r + 1)))).app (LI d ((x :: r).drop (runN d x.pre[d]? r + 1))) := by
 have h1 := sumD_pos hd
 obtain ⟨f, hf⟩ : ∃ f, 2 * sumD d (x :: r) = f + 1 := ⟨2 * sumD d (x :: r) - 1, by omega⟩
 unfold LI
 rw [hf, listsF_cons]
 generalize hn : runN d x.pre[d]? r = n
 have hs := sumD_split d (n + 1) (x :: r)
 have ht : 1 ≤ sumD d ((x :: r).take (n + 1)) := by rw [List.take_succ_cons, sumD_cons]; have := hd x List.mem_cons_self; omega
 rw [IT_of (hd.take _) (by omega)]
 have h2 : listsF f d ((x :: r).drop (n + 1)) = LI d ((x :: r).drop (n + 1)) := LI_of (hd.drop _) (by omega)
 rw [h2]
 rfl
theorem IT_head {d : Nat} {x : It} {r : List It} (hd : Deep d (x :: r)) (hx : x.pre.length = d + 1) :
  IT d (x :: r) = (blk 4 0 [] (read x.txt) (LI (d + 1) (r.take (deepN d r)))).app (IT d (r.drop (deepN d r))) := by
 have h1 := sumD_pos hd
 obtain ⟨f, hf⟩ : ∃ f, 2 * sumD d (x :: r) = f + 1 := ⟨2 * sumD d (x :: r) - 1, by omega⟩
 rw [IT, hf, itemsF_head f d x r hx]
 generalize hn : deepN d r = n
 have hs := sumD_split d n r
 have hsc := sumD_cons d x r
 have h3 := sumD_succ d (r.take n) (hd.tail.take n)
 have h4 : Deep (d + 1) (r.take n) := by rw [← hn]; exact deep_take r
 rw [LI_of h4 (by omega), IT_of (hd.tail.drop n) (by omega)]
theorem IT_deep {d : Nat} {x : It} {r : List It} (hd : Deep d (x :: r)) (hx : ¬ x.pre.length = d + 1) :
  IT d (x :: r) = (blk 4 0 [] .nil (LI (d + 1) ((x :: r).take (deepN d (x :: r))))).app (IT d ((x :: r).drop (deepN d (x :: r)))) := by
 have h1 := sumD_pos hd
 obtain ⟨f, hf⟩ : ∃ f, 2 * sumD d (x :: r) = f + 1 := ⟨2 * sumD d (x :: r) - 1, by omega⟩
 rw [IT, hf, itemsF_deep f d x r hx]
 have hx2 : d + 1 < x.pre.length := by have := hd x List.mem_cons_self; omega
 have hnp := deepN_pos (r := r) hx2
 generalize hn : deepN d (x :: r) = n at *
 have hs := sumD_split d n (x :: r)
 have h3 := sumD_succ d ((x :: r).take n) (hd.take n)
 have h4 : Deep (d + 1) ((x :: r).take n) := by rw [← hn]; exact deep_take _
 have hl : 1 ≤ ((x :: r).take n).length := by rw [hnp]; simp
 rw [LI_of h4 (by omega), IT_of (hd.drop n) (by omega)]
end Go.Proofs.YthieinfonomeeaaGreatDoor.Blk
namespace Go.Proofs.YthieinfonomeeaaGreatDoor.Blk
open Doc Tit Inl
set_option linter.unusedVariables false
def tot : List Line → Nat
 | [] => 0
 | a :: r => a.length + 1 + tot r
theorem tot_take (n : Nat) : ∀ (l : List Line), tot (l.take n) ≤ tot l
 | [] => by simp
 | a :: r => by
   cases n with
   | zero => simp [tot]
   | succ n => rw [List.take_succ_cons, tot, tot]; have := tot_take n r; omega
theorem tot_drop : ∀ (n : Nat) (l : List Line), tot (l.drop n) ≤ tot l
 | 0, l => by simp
 | n + 1, [] => by simp
 | n + 1, a :: r => by rw [List.drop_succ_cons, tot]; have := tot_drop n r; omega
theorem tot_map (f : Line → Line) (hf : ∀ a, (f a).length ≤ a.length) : ∀ l : List Line, tot (l.map f) ≤ tot l
 | [] => Nat.le_refl _
 | a :: r => by rw [List.map_cons, tot, tot]; have := tot_map f hf r; have := hf a; omega
theorem tot_mem {a : Line} : ∀ {l : List Line}, a ∈ l → a.length + 1 ≤ tot l
 | b :: r, h => by
   rw [tot]
   rcases List.mem_cons.1 h with rfl | h
   ·omega
   ·have := tot_mem h; omega
theorem len_tot : ∀ l : List Line, l.length ≤ tot l
 | [] => Nat.le_refl _
 | a :: r => by rw [List.length_cons, tot]; have := len_tot r; omega
theorem joinL_len : ∀ l : List Line, (joinL l).length ≤ tot l
 | [] => Nat.le_refl _
 | [a] => by simp [joinL, tot]
 | a :: b :: r => by
   rw [joinL, tot]
   have := joinL_len (b :: r)
   simp only [List.length_append, List.length_singleton]
   omega
theorem joinL_join : ∀ l : List Line, Lib.join l [10] = joinL l
 | [] => rfl
 | [a] => by rw [Lib.join_one]; rfl
 | a :: b :: r => by
   have ih := joinL_join (b :: r)
   rw [joinL, ← ih]
   simp [Lib.join, List.intercalate, List.intersperse]
theorem onto_tot (c : UInt8) : ∀ l : List Line, l ≠ [] → tot (onto c l) = tot l + 1
 | [], h => absurd rfl h
 | a :: r, _ => by simp [onto, tot]; omega
theorem onto_ne (c : UInt8) (l : List Line) : onto c l ≠ [] := by cases l <;> simp [onto]
theorem spl_ne (c : UInt8) : ∀ s : Line, spl c s ≠ []
 | [] => by simp [spl]
 | x :: s => by
   rw [spl]
   split
   ·simp
   ·exact onto_ne _ _
theorem spl_tot (c : UInt8) : ∀ s : Line, tot (spl c s) = s.length + 1
 | [] => rfl
 | x :: s => by
   rw [spl]
   split
   ·rw [tot, spl_tot c s]; simp; omega
   ·rw [onto_tot _ _ (spl_ne c s), spl_tot c s]; simp
theorem spl2_ne (a : UInt8) : ∀ s : Line, spl2 a s ≠ []
 | [] => by simp [spl2]
 | [x] => by simp [spl2]
 | x :: y :: s => by
   rw [spl2]
   split
   ·simp
   ·exact onto_ne _ _
theorem spl2_tot (a : UInt8) : ∀ s : Line, tot (spl2 a s) ≤ s.length + 1
 | [] => Nat.le_refl _
 | [x] => Nat.le_refl _
 | x :: y :: s => by
   rw [spl2]
   split
   ·rw [tot]; have := spl2_tot a s; simp; omega
   ·rw [onto_tot _ _ (spl2_ne a _)]; have := spl2_tot a (y :: s); simp at this ⊢; omega
theorem firstB_pos (x : Line) (r : List Line) : 1 ≤ (firstB (x :: r)).2 ∧ (firstB (x :: r)).2 ≤ (x :: r).length := by
 have h : ∀ p : Line → Bool, (r.takeWhile p).length ≤ r.length := fun p => by
  have h := congrArg List.length (List.takeWhile_append_dropWhile (p := p) (l := r))
  rw [List.length_append] at h
  omega
 rw [List.length_cons]
 simp only [firstB]
 repeat' split
 all_goals (dsimp only; first | omega | (have := h listL; omega) | (have := h (fun l => !(emptyL l) && codeL l); omega) | (have := h (fun l => decide (kindL l = 6)); omega))
theorem blocksF_fuel : ∀ (f g : Nat) (l : List Line), l.length ≤ f → l.length ≤ g → blocksF f l = blocksF g l
 | 0, 0, _, _, _ => rfl
 | 0, g + 1, l, h, _ => by
   have : l = [] := List.length_eq_zero_iff.1 (by omega)
   subst this; rfl
 | f + 1, 0, l, _, h => by
   have : l = [] := List.length_eq_zero_iff.1 (by omega)
   subst this; rfl
 | f + 1, g + 1, [], _, _ => rfl
 | f + 1, g + 1, x :: r, h1, h2 => by
   rw [blocksF, blocksF]
   have hp := (firstB_pos x r).1
   rw [blocksF_fuel f g _ (by rw [List.length_drop]; simp only [List.length_cons] at *; omega) (by rw [List.length_drop]; simp only [List.length_cons] at *; omega)]
def BL (l : List Line) : Bls := blocksF l.length l
theorem BL_cons (x : Line) (r : List Line) : BL (x :: r) = (firstB (x :: r)).1.app (BL ((x :: r).drop (firstB (x :: r)).2)) := by
 unfold BL
 rw [List.length_cons, blocksF]
 have hp := (firstB_pos x r).1
 rw [blocksF_fuel _ _ _ (by rw [List.length_drop, List.length_cons]; omega) (Nat.le_refl _)]
theorem blocks_BL (s : Line) : blocks s = BL (lines s) := rfl
end Go.Proofs.YthieinfonomeeaaGreatDoor.Blk
namespace Go.Proofs.YthieinfonomeeaaGreatDoor.Inl
open Go.RowKit Doc Tit
set_option linter.unusedVariables false
theorem linkC_form {P : List UInt8 → Ins} {c : List UInt8} {x : Ins} (h : linkC P c = some (some x)) :
  (x = .cons 4 ⟨#[]⟩ (parse (lname c)).1 ⟨(parse (lname c)).2.1.toArray⟩ ⟨(lanchor c).toArray⟩ (P (label c)) .nil ∧ (parse (lname c)).2.2 = 0) ∨ (x = .cons 4 ⟨#[]⟩ 0 ⟨#[]⟩ ⟨(lanchor c).toArray⟩ (P (label c)) .nil ∧ lanchor c ≠ []) := by
 unfold linkC at h
 split at h
 ·split at h
  ·cases h
  ·rename_i h0
   split at h
   ·cases h
   ·injection h with h; injection h with h
    exact .inl ⟨h.symm, by omega⟩
 ·rename_i hn
  injection h with h; injection h with h
  refine .inr ⟨h.symm, fun e => hn ?_⟩
  rw [e]; simp
theorem link_form {P : List UInt8 → Ins} {l : List UInt8} {x : Ins} {n : Nat} (h : linkE P l = some (some x, n)) : ∃ c, linkC P c = some (some x) ∧ n = c.length + 4 ∧ n ≤ l.length := by
 have hl := (linkE_len h).2
 unfold linkE at h
 split at h
 ·split at h
  ·cases h
  ·dsimp only at h
   split at h
   ·cases h
   ·obtain ⟨c, hc⟩ : ∃ c, c = (l.drop 2).take (Lib.index (l.drop 2) [93, 93]).toNat := ⟨_, rfl⟩
    rw [← hc] at h
    cases hv : linkC P c with
    | none => rw [hv] at h; cases h
    | some y =>
      rw [hv] at h
      injection h with h
      injection h with h1 h2
      exact ⟨c, by rw [hv, h1], h2.symm, hl⟩
 ·cases h
theorem noteC_form {P : List UInt8 → Ins} {nm l : List UInt8} {k n : Nat} {x : Ins} (h : noteC P nm k l = some (x, n)) : ∃ c, x = note nm (P c) ∧ c.length + 6 ≤ n := by
 unfold noteC at h
 split at h
 ·cases h
 ·dsimp only at h
  split at h
  ·cases h
  ·injection h with h; injection h with h1 h2
   exact ⟨_, h1.symm, by omega⟩
theorem note_form {P : List UInt8 → Ins} {l : List UInt8} {x : Ins} {n : Nat} (h : noteE P l = some (x, n)) : n ≤ l.length ∧ ((∃ nm, x = note nm .nil ∧ 6 ≤ n) ∨ ∃ nm c, x = note nm (P c) ∧ c.length + 6 ≤ n) := by
 refine ⟨(noteE_len h).2, ?_⟩
 unfold noteE at h
 split at h
 ·obtain ⟨c, hc⟩ := noteC_form h
  exact .inr ⟨_, c, hc⟩
 ·split at h
  ·dsimp only at h
   split at h
   ·cases h
   ·split at h
    ·injection h with h; injection h with h1 h2
     exact .inl ⟨_, h1.symm, by omega⟩
    ·split at h
     ·obtain ⟨c, hc⟩ := noteC_form h
      exact .inr ⟨_, c, hc⟩
     ·cases h
  ·cases h
theorem ev_form {P : List UInt8 → Ins} {c : UInt8} {r : List UInt8} {x : Ins} {n : Nat} (h : ev P c r = .elem x n) : (x = el 6 [] .nil ∧ n = 4) ∨ linkE P (c :: r) = some (some x, n) ∨ noteE P (c :: r) = some (x, n) := by
 unfold ev at h
 split at h
 ·cases hv : linkE P (c :: r) with
  | none => rw [hv] at h; cases h
  | some y =>
    obtain ⟨y, m⟩ := y
    cases y with
    | none => rw [hv] at h; cases h
    | some y =>
      rw [hv] at h
      injection h with h1 h2
      subst h1 h2
      exact .inr (.inl rfl)
 ·split at h
  ·split at h
   ·injection h with h1 h2
    exact .inl ⟨h1.symm, h2.symm⟩
   ·cases hv : noteE P (c :: r) with
    | none => rw [hv] at h; cases h
    | some y =>
      obtain ⟨y, m⟩ := y
      rw [hv] at h
      injection h with h1 h2
      subst h1 h2
      exact .inr (.inr rfl)
  ·split at h
   ·cases hv : ent (c :: r) with
    | none => rw [hv] at h; cases h
    | some y => rw [hv] at h; cases h
   ·split at h
    ·unfold ofQuotes at h
     split at h
     ·cases h
     ·cases h
    ·cases h
theorem ev_quotes {P : List UInt8 → Ins} {c : UInt8} {r : List UInt8} {n : Nat} (h : ev P c r = .quotes n) : c = 39 ∧ 2 ≤ n ∧ n = ((c :: r).takeWhile (fun c => decide (c = 39))).length := by
 unfold ev at h
 split at h
 ·cases hv : linkE P (c :: r) with
  | none => rw [hv] at h; cases h
  | some y =>
    obtain ⟨y, m⟩ := y
    rw [hv] at h
    cases y <;> cases h
 ·split at h
  ·split at h
   ·cases h
   ·cases hv : noteE P (c :: r) with
    | none => rw [hv] at h; cases h
    | some y => rw [hv] at h; cases h
  ·split at h
   ·cases hv : ent (c :: r) with
    | none => rw [hv] at h; cases h
    | some y => rw [hv] at h; cases h
   ·split at h
    ·rename_i hc
     unfold ofQuotes at h
     split at h
     ·cases h
     ·rename_i h2
      injection h with h
      exact ⟨hc, by omega, h.symm⟩
    ·cases h
def zt : Stk → Nat
 | [] => 0
 | (_, l) :: r => l.size + 1 + zt r
def S.z (s : S) : Nat := zt s.stk + s.pend.length
theorem el_size (k : Int) (t : List UInt8) (a : Ins) : (el k t a).size = a.size + 1 := by simp only [el, Ins.size]
theorem zt_addTop (x : Ins) : ∀ st, zt (addTop x st) ≤ zt st + x.size
 | [] => by simp [addTop, zt]
 | (k, l) :: r => by simp only [addTop, zt, Ins.size_app]; omega
theorem zt_flush (st : Stk) (p : List UInt8) : zt (flush st p) ≤ zt st + p.length := by
 unfold flush
 split
 ·omega
 ·rename_i h
  have h1 := zt_addTop (txt p) st
  have h2 : (txt p).size = 1 := rfl
  have h3 : 0 < p.length := List.length_pos_iff.2 h
  omega
theorem zt_endT : ∀ st, zt (endT st) ≤ zt st
 | [] => Nat.le_refl _
 | (k, l) :: r => by
   simp only [endT]
   split
   ·simp only [zt]; omega
   ·have := zt_addTop (el k [] l) r
    rw [el_size] at this
    simp only [zt]; omega
theorem zt_endN : ∀ n st, zt (endN n st) ≤ zt st
 | 0, st => Nat.le_refl _
 | n + 1, st => Nat.le_trans (zt_endN n _) (zt_endT st)
theorem zt_reopen : ∀ l st, zt (reopen l st) = zt st + l.length
 | [], st => rfl
 | k :: r, st => by simp only [reopen, zt, Ins.size, zt_reopen r st, List.length_cons]; omega
theorem zt_toggle (k : Int) (st : Stk) (h : st.length ≤ 3) : zt (toggle k st) ≤ zt st + 3 := by
 have hl : (later k st).length ≤ st.length := by
  unfold later
  rw [List.length_map]
  exact tw_len _ _
 unfold toggle
 split
 ·simp only [zt, Ins.size]; omega
 ·rw [zt_reopen]
  have := zt_endN ((later k st).length + 1) st
  omega
where tw_len (p : Int × Ins → Bool) : ∀ l : Stk, (l.takeWhile p).length ≤ l.length
 | [] => Nat.le_refl _
 | a :: r => by
   rw [List.takeWhile_cons]
   split
   ·have := tw_len p r
    simp only [List.length_cons]; omega
   ·simp
theorem ok_le {st : Stk} (h : Ok st) : st.length ≤ 3 := by
 rcases h with ⟨l, rfl⟩ | ⟨k, a, l, _, rfl⟩ | ⟨k, k', a, b, l, _, rfl⟩ <;> simp
theorem z_toggle (s : S) (k : Int) (h : Ok s.stk) : (s.toggle k).z ≤ s.z + 3 := by
 have h1 := zt_flush s.stk s.pend
 have h2 := zt_toggle k (flush s.stk s.pend) (ok_le (h.flush _))
 simp only [S.z, S.toggle, List.length_nil]; omega
theorem z_app (s : S) (e : Ev) (hs : Ok s.stk) (he : ∀ x n, e = .elem x n → x.size ≤ 3 * n) (hq : ∀ n, e = .quotes n → 2 ≤ n) (h1 : 1 ≤ e.len) : (e.app s).z ≤ s.z + 3 * e.len := by
 cases e with
 | letter c n => simp only [Ev.app, S.letter, S.z, List.length_append, List.length_singleton, Ev.len] at h1 ⊢; omega
 | elem x n =>
   have h2 := zt_flush s.stk s.pend
   have h3 := zt_addTop x (flush s.stk s.pend)
   have h4 := he x n rfl
   simp only [Ev.app, S.add, S.z, List.length_nil, Ev.len] at h1 ⊢; omega
 | skip n => simp only [Ev.app, Ev.len]; omega
 | quotes n =>
   have h5 := hq n rfl
   simp only [Ev.app, S.quotes, Ev.len]
   have hl : left n ≤ n := by unfold left; split <;> omega
   have ha : (S.mk s.stk (s.pend ++ List.replicate (n - left n) 39)).z ≤ s.z + (n - left n) := by
    simp only [S.z, List.length_append, List.length_replicate]; omega
   have ho : Ok (S.mk s.stk (s.pend ++ List.replicate (n - left n) 39)).stk := hs
   generalize S.mk s.stk (s.pend ++ List.replicate (n - left n) 39) = a at ha ho
   have hb := z_toggle a 2 ho
   have hb3 := z_toggle a 3 ho
   have hbo : Ok (a.toggle 2).stk := (ho.flush _).toggle (.inl rfl)
   have hc := z_toggle (a.toggle 2) 3 hbo
   split
   ·split <;> omega
   ·split <;> omega
theorem z_run {P : List UInt8 → Ins} (L : Nat) (hP : ∀ x : List UInt8, x.length < L → (P x).size ≤ 3 * x.length) : ∀ (f : Nat) (s : S) (l : List UInt8), Ok s.stk → l.length ≤ L → (run P f s l).z ≤ s.z + 3 * l.length
 | 0, s, l, _, _ => by simp only [run]; omega
 | _ + 1, s, [], _, _ => by simp only [run]; omega
 | f + 1, s, c :: r, h, hl => by
   have h1 := ev_len P c r
   have h2 := z_app s (ev P c r) h (fun x n e => by
    rcases ev_form e with ⟨rfl, rfl⟩ | e | e
    ·exact (by decide : 1 ≤ 3 * 4)
    ·obtain ⟨d, hd, hn, hnl⟩ := link_form e
     have hla := label_le d
     have hz := hP (label d) (by omega)
     have hx : x.size = (P (label d)).size + 1 := by
      rcases linkC_form hd with ⟨rfl, _⟩ | ⟨rfl, _⟩ <;> simp only [Ins.size] <;> omega
     omega
    ·obtain ⟨hnl, ⟨nm, rfl, h6⟩ | ⟨nm, d, rfl, h6⟩⟩ := note_form e
     ·simp only [note, Ins.size]; omega
     ·have hz := hP d (by omega)
      simp only [note, Ins.size]; omega) (fun n e => (ev_quotes e).2.1) h1.1
   have h3 := z_run L hP f ((ev P c r).app s) ((c :: r).drop (ev P c r).len) (h.app _) (by rw [List.length_drop]; omega)
   rw [List.length_drop] at h3
   simp only [run]
   omega
theorem fin_size1 (s : S) : s.fin.size ≤ s.z - 1 := by
 have h1 := zt_endN (s.stk.length - 1) (flush s.stk s.pend)
 have h2 := zt_flush s.stk s.pend
 unfold S.fin S.z
 split
 ·rename_i k l r h
  rw [h] at h1
  simp only [zt] at h1
  omega
 ·simp only [Ins.size]; omega
theorem parseF_size : ∀ (d : Nat) (l : List UInt8), (parseF d l).size ≤ 3 * l.length
 | 0, l => by simp [parseF, Ins.size]
 | d + 1, l => by
   have h1 := z_run (P := parseF d) l.length (fun x _ => parseF_size d x) l.length start l ok_start (Nat.le_refl _)
   have h2 := fin_size1 (run (parseF d) l.length start l)
   have h3 : start.z = 1 := rfl
   rw [parseF]
   omega
theorem read_size (l : List UInt8) : (read l).size ≤ 3 * l.length := parseF_size _ _
end Go.Proofs.YthieinfonomeeaaGreatDoor.Inl
