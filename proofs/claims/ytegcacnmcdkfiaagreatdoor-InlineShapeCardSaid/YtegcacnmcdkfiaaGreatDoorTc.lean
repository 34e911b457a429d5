/-
  Titles: the program's way with lists of parts comes to the same. No conditions but those typed.
  Elements within lines as plain data: what a text reads as. No conditions.
  What a text reads as: how much each step takes, and that deeper fuel changes nothing. No conditions.
  Texts without their entities, one step at a time. No conditions.
  Numbers of entities. No conditions.
  Marks that are switched, on stacks written with the outermost element first. No conditions.
  A name of a namespace other than 0 holds a ':'. No conditions.
  What stands at a place, in the reference's order of asking. No conditions.
  What an element that was read is; how many elements there are. Plain.
  What texts without marks, texts between marks and written entities read as. No conditions.
-/
import Derived.Test.YtegcacnmcdkfiaaGreatDoorTb
import Derived.Lib.SplitLaws
import Derived.Lib.ReplaceLaws
import Derived.Lib.TrimByte
import Derived.Lib.Join

namespace Go.Proofs.YtegcacnmcdkfiaaGreatDoor.Tit
set_option linter.unusedVariables false

theorem index_cons_eq (c : UInt8) (l : List UInt8) : Lib.index (c :: l) [c] = 0 := by
  unfold Lib.index
  simp
theorem index_cons_ne {b c : UInt8} (h : b ≠ c) (l : List UInt8) : Lib.index (b :: l) [c] = if Lib.index l [c] = -1 then -1 else Lib.index l [c] + 1 := by
  rw [Lib.index]
  have : [c].isPrefixOf (b :: l) = false := by simp [List.isPrefixOf]; exact fun e => h e.symm
  rw [this]
  simp
/-- where a byte stands first -/
theorem index_byte (c : UInt8) : ∀ l : List UInt8, Lib.index l [c] = if (l.takeWhile (· ≠ c)).length = l.length then -1 else ((l.takeWhile (· ≠ c)).length : Int)
  | [] => rfl
  | b :: l => by
    by_cases h : b = c
    · subst h
      rw [index_cons_eq]
      simp
    · rw [index_cons_ne h, index_byte c l, List.takeWhile_cons_of_pos (by simpa using h)]
      simp only [List.length_cons]
      by_cases e : (l.takeWhile (· ≠ c)).length = l.length
      · rw [if_pos e, if_pos rfl, if_pos (by omega)]
      · rw [if_neg e, if_neg (by omega), if_neg (by omega)]
        omega
theorem take_tw (c : UInt8) (l : List UInt8) : l.take (l.takeWhile (· ≠ c)).length = l.takeWhile (· ≠ c) := by
  induction l with
  | nil => rfl
  | cons b l ih =>
    by_cases h : b = c
    · subst h; simp
    · rw [List.takeWhile_cons_of_pos (by simpa using h)]
      simp only [List.length_cons, List.take_succ_cons, ih]
/-- a cut at a byte -/
theorem cut_byte (c : UInt8) (l : List UInt8) : Lib.cut l [c] = if (l.takeWhile (· ≠ c)).length = l.length then (l, [], false) else (l.takeWhile (· ≠ c), l.drop ((l.takeWhile (· ≠ c)).length + 1), true) := by
  unfold Lib.cut
  rw [index_byte]
  by_cases e : (l.takeWhile (· ≠ c)).length = l.length
  · rw [if_pos e, if_pos e, if_neg (by decide)]
  · rw [if_neg e, if_neg e, if_pos (by omega)]
    simp only [Int.toNat_natCast, List.length_cons, List.length_nil, take_tw]
theorem tw_le (p : UInt8 → Bool) (l : List UInt8) : (l.takeWhile p).length ≤ l.length := by
  induction l with
  | nil => simp
  | cons b l ih => rw [List.takeWhile_cons]; split <;> simp <;> omega
theorem takeWhile_self {p : UInt8 → Bool} {l : List UInt8} (h : (l.takeWhile p).length = l.length) : l.takeWhile p = l := by
  induction l with
  | nil => rfl
  | cons b l ih =>
    rw [List.takeWhile_cons] at h ⊢
    split
    · rename_i hb
      rw [if_pos hb] at h
      rw [ih (by simpa using h)]
    · rename_i hb
      rw [if_neg hb] at h
      simp at h
theorem cut_fst (c : UInt8) (l : List UInt8) : (Lib.cut l [c]).1 = l.takeWhile (· ≠ c) := by
  rw [cut_byte]
  split
  · rename_i h; exact (takeWhile_self h).symm
  · rfl

/-! ### blanks -/
theorem trimSuffix_chop (l : List UInt8) : Lib.trimSuffix l [32] = chop l := by
  unfold Lib.trimSuffix chop Lib.hasSuffix
  have h : [32].isSuffixOf l = true ↔ l.getLast? = some 32 := by
    rw [List.isSuffixOf_iff_suffix]
    constructor
    · rintro ⟨t, rfl⟩; simp
    · intro h
      obtain ⟨t, rfl⟩ := List.getLast?_eq_some_iff.1 h
      exact ⟨t, rfl⟩
  by_cases hl : l.getLast? = some 32
  · rw [if_pos (h.2 hl), if_pos hl, List.dropLast_eq_take]
    rfl
  · rw [if_neg (fun e => hl (h.1 e)), if_neg hl]
theorem trimPrefix_dropOne (l : List UInt8) : Lib.trimPrefix l [32] = dropOne l := by
  unfold Lib.trimPrefix dropOne Lib.hasPrefix
  cases l with
  | nil => simp [List.isPrefixOf]
  | cons a r =>
    by_cases h : a = 32
    · subst h; simp [List.isPrefixOf]
    · have : [32].isPrefixOf (a :: r) = false := by simp [List.isPrefixOf]; exact fun e => h e.symm
      rw [this]
      simp [h]
theorem replace_one (a b : UInt8) (hab : a ≠ b) : ∀ (l : List UInt8) (k : Nat), l.count a ≤ k → Lib.replaceK [a] [b] k l = l.map fun c => if c = a then b else c
  | [], k, h => by
    cases k with
    | zero => rfl
    | succ k => rw [Lib.replaceK]; rfl
  | c :: l, k, h => by
    by_cases e : c = a
    · subst e
      rw [List.count_cons_self] at h
      obtain ⟨k, rfl⟩ : ∃ k', k = k' + 1 := ⟨k - 1, by omega⟩
      rw [Lib.replaceK_hit _ _ _ _ 0 (index_cons_eq c l)]
      simp only [List.take_zero, List.nil_append, List.length_cons, List.length_nil, Nat.zero_add, List.drop_succ_cons, List.drop_zero, List.map_cons, if_true, List.cons_append]
      rw [replace_one c b hab l k (by omega)]
    · rw [List.count_cons_of_ne e] at h
      have ih := replace_one a b hab l k h
      have hi := index_cons_ne e l
      cases k with
      | zero =>
        rw [Lib.replaceK] at ih ⊢
        rw [List.map_cons, if_neg e, ← ih]
      | succ k =>
        rw [Lib.replaceK] at ih ⊢
        rw [hi]
        by_cases em : Lib.index l [a] = -1
        · rw [if_pos em]
          rw [em] at ih
          simp only [BEq.rfl, if_true] at ih ⊢
          rw [List.map_cons, if_neg e, ← ih]
        · have hg := Lib.index_ge l [a]
          have e1 : (Lib.index l [a] == -1) = false := by simpa using em
          have e2 : (Lib.index l [a] + 1 == -1) = false := by simp; omega
          rw [if_neg em, e2]
          rw [e1] at ih
          simp only [Bool.false_eq_true, if_false] at ih ⊢
          rw [show (Lib.index l [a] + 1).toNat = (Lib.index l [a]).toNat + 1 by omega]
          simp only [List.take_succ_cons, List.map_cons, if_neg e, List.cons_append, ← ih]
          rw [show (Lib.index l [a]).toNat + 1 + [a].length = (Lib.index l [a]).toNat + [a].length + 1 by omega, List.drop_succ_cons]
theorem replace_unb (l : List UInt8) : Lib.replaceAll l [95] [32] = l.map unb := by
  unfold Lib.replaceAll Lib.replace
  rw [if_neg (by decide)]
  have : Lib.replaceNum l [95] (-1) = Lib.count l [95] := by unfold Lib.replaceNum; rw [if_pos (.inl (by decide))]
  rw [this, replace_one 95 32 (by decide) l _ (by rw [Lib.count_one]; exact Nat.le_refl _)]
  rfl
theorem unb_unb (c : UInt8) : unb (unb c) = unb c := by
  unfold unb
  by_cases h : c = 95
  · rw [if_pos h]; rfl
  · rw [if_neg h, if_neg h]
theorem sqF_map : ∀ (s out : List UInt8), sqF out (s.map unb) = sqF out s
  | [], _ => rfl
  | c :: r, out => by
    rw [List.map_cons, sqF, sqF, unb_unb]
    split
    · exact sqF_map r out
    · exact sqF_map r _

/-! ### parts -/
theorem segs_ne (s : List UInt8) : segs s ≠ [] := by
  cases s with
  | nil => simp [segs]
  | cons c r =>
    unfold segs
    split
    · simp
    · cases segs r <;> simp
theorem split_segs : ∀ (s : List UInt8) (k : Nat), s.count 47 ≤ k → Lib.splitK [47] 0 k s = segs s
  | [], k, h => by
    cases k with
    | zero => rfl
    | succ k => rw [Lib.splitK]; rfl
  | c :: l, k, h => by
    by_cases e : c = 47
    · subst e
      rw [List.count_cons_self] at h
      obtain ⟨k, rfl⟩ : ∃ k', k = k' + 1 := ⟨k - 1, by omega⟩
      rw [Lib.splitK, index_cons_eq]
      rw [if_neg (by decide)]
      simp only [Int.toNat_zero, Nat.add_zero, List.take_zero, List.length_cons, List.length_nil, Nat.zero_add, List.drop_succ_cons, List.drop_zero]
      rw [split_segs l k (by omega)]
      simp [segs]
    · rw [List.count_cons_of_ne e] at h
      have ih := split_segs l k h
      have hi := index_cons_ne e l
      have hs : segs (c :: l) = match segs l with | [] => [[c]] | x :: m => (c :: x) :: m := by rw [segs, if_neg e]; cases segs l <;> rfl
      cases k with
      | zero =>
        rw [Lib.splitK] at ih ⊢
        rw [hs, ← ih]
      | succ k =>
        rw [Lib.splitK] at ih ⊢
        rw [hi]
        by_cases em : Lib.index l [47] = -1
        · rw [if_pos em]
          rw [em] at ih
          simp only [BEq.rfl, if_true] at ih ⊢
          rw [hs, ← ih]
        · have hg := Lib.index_ge l [47]
          have e1 : (Lib.index l [47] == -1) = false := by simpa using em
          have e2 : (Lib.index l [47] + 1 == -1) = false := by simp; omega
          rw [if_neg em, e2]
          rw [e1] at ih
          simp only [Bool.false_eq_true, if_false] at ih ⊢
          rw [hs, ← ih]
          rw [show (Lib.index l [47] + 1).toNat = (Lib.index l [47]).toNat + 1 by omega]
          simp only [Nat.add_zero, List.take_succ_cons]
          rw [show (Lib.index l [47]).toNat + 1 + ([47] : List UInt8).length = (Lib.index l [47]).toNat + ([47] : List UInt8).length + 1 by rw [List.length_singleton], List.drop_succ_cons]
/-- the parts, trimmed and put together again; 'first': there is none before -/
def joinT : Bool → List (List UInt8) → List UInt8
  | _, [] => []
  | f, [p] => if f then p else Lib.trimLeftB p 32
  | f, p :: q :: r => Lib.trimRightB (if f then p else Lib.trimLeftB p 32) 32 ++ [47] ++ joinT false (q :: r)
theorem trimL_ne {c : UInt8} (h : c ≠ 32) (x : List UInt8) : Lib.trimLeftB (c :: x) 32 = c :: x := by
  unfold Lib.trimLeftB; rw [List.dropWhile_cons]; simp [h]
theorem trimL_eq (x : List UInt8) : Lib.trimLeftB (32 :: x) 32 = Lib.trimLeftB x 32 := by
  unfold Lib.trimLeftB; rw [List.dropWhile_cons]; simp
theorem trimL_head {x : List UInt8} (h : x.head? ≠ some 32) : Lib.trimLeftB x 32 = x := by
  cases x with
  | nil => rfl
  | cons a r => exact trimL_ne (by simpa using h) r
theorem trimR_nil : Lib.trimRightB [] 32 = [] := rfl
theorem trimR_one : Lib.trimRightB [32] 32 = [] := rfl
theorem drop_nil {p : UInt8 → Bool} : ∀ (l : List UInt8), l.dropWhile p = [] → ∀ y ∈ l, p y = true
  | [], _, y, hy => by cases hy
  | a :: l, h, y, hy => by
    rw [List.dropWhile_cons] at h
    split at h
    · rename_i ha
      rcases List.mem_cons.1 hy with rfl | hy
      · exact ha
      · exact drop_nil l h y hy
    · cases h
theorem dropWhile_snoc (c : UInt8) : ∀ (l : List UInt8), (l ++ [c]).dropWhile (· == 32) = if l.dropWhile (· == 32) = [] then [c].dropWhile (· == 32) else l.dropWhile (· == 32) ++ [c]
  | [] => by simp
  | a :: l => by
    rw [List.cons_append, List.dropWhile_cons, List.dropWhile_cons]
    split
    · exact dropWhile_snoc c l
    · simp
/-- a byte in front of a text that does not fall away whole -/
theorem trimR_cons {c : UInt8} {x : List UInt8} (h : c ≠ 32 ∨ x.head?.any (· ≠ 32) = true) : Lib.trimRightB (c :: x) 32 = c :: Lib.trimRightB x 32 := by
  unfold Lib.trimRightB
  rw [List.reverse_cons, dropWhile_snoc]
  by_cases e : x.reverse.dropWhile (· == 32) = []
  · rw [if_pos e, e]
    rcases h with h | h
    · rw [List.dropWhile_cons]; simp [h]
    · exfalso
      cases x with
      | nil => simp at h
      | cons a r =>
        have ha : a ≠ 32 := by simpa using h
        have : a ∈ (a :: r).reverse := by simp
        have hall : ∀ y ∈ (a :: r).reverse, y = 32 := by
          intro y hy
          have := drop_nil _ e y hy
          simpa using this
        exact ha (hall a this)
  · rw [if_neg e]; simp
theorem joinT_first {x : List UInt8} (l : List (List UInt8)) (h : Lib.trimLeftB x 32 = x) : joinT false (x :: l) = joinT true (x :: l) := by
  cases l with
  | nil => simp [joinT, h]
  | cons q r => simp [joinT, h]
theorem segs_head (r : List UInt8) {x : List UInt8} {l : List (List UInt8)} (h : segs r = x :: l) : (x.head? = r.head? ∧ r.head? ≠ some 47 ∧ (r = [] → l = [])) ∨ (x = [] ∧ r.head? = some 47) := by
  cases r with
  | nil => simp only [segs, List.cons.injEq] at h; obtain ⟨rfl, rfl⟩ := h; exact .inl ⟨rfl, by simp, fun _ => rfl⟩
  | cons c r =>
    unfold segs at h
    split at h
    · rename_i hc
      injection h with h1 h2
      exact .inr ⟨h1.symm, by rw [hc]; rfl⟩
    · rename_i hc
      left
      cases hr : segs r with
      | nil => exact absurd hr (segs_ne r)
      | cons y m =>
        rw [hr] at h
        injection h with h1 h2
        rw [← h1]
        exact ⟨rfl, by simpa using hc, fun h => by cases h⟩
theorem nob_join : ∀ (s : List UInt8) (p : UInt8), lone s → (p = 32 → s.head? ≠ some 32) → nobF p s = joinT (p ≠ 47) (segs s)
  | [], p, _, _ => by
    by_cases h : p = 47 <;> simp [nobF, segs, joinT, h, Lib.trimLeftB]
  | c :: r, p, hl, hp => by
    have hl2 : lone r := lone_tail hl
    have hnx : c = 32 → r.head? ≠ some 32 := by
      intro hc
      cases r with
      | nil => simp
      | cons b t => intro e; exact hl.1 ⟨hc, by simpa using e⟩
    have ih := nob_join r c hl2 hnx
    by_cases hc : c = 47
    · subst hc
      have hs : segs (47 :: r) = [] :: segs r := by rw [segs, if_pos rfl]
      rw [hs, nobF, if_neg (by simp), ih]
      cases hr : segs r with
      | nil => exact absurd hr (segs_ne r)
      | cons y m =>
        simp only [joinT]
        have : Lib.trimRightB (if (decide (p ≠ 47)) = true then ([] : List UInt8) else Lib.trimLeftB [] 32) 32 = [] := by split <;> rfl
        rw [this]
        simp
    · cases hr : segs r with
      | nil => exact absurd hr (segs_ne r)
      | cons x l =>
        have hs : segs (c :: r) = (c :: x) :: l := by rw [segs, if_neg hc, hr]
        have hh := segs_head r hr
        rw [hr] at ih
        rw [hs, nobF]
        have hc47 : decide (c ≠ 47) = true := by simpa using hc
        rw [hc47] at ih
        by_cases h32 : c = 32
        · subst h32
          have hxh : Lib.trimLeftB x 32 = x := by
            refine trimL_head ?_
            rcases hh with ⟨h1, -, -⟩ | ⟨h1, -⟩
            · rw [h1]; exact hnx rfl
            · rw [h1]; simp
          by_cases hp47 : p = 47
          · rw [if_pos ⟨rfl, .inl hp47⟩, ih, ← joinT_first l hxh]
            have hpd : decide (p ≠ 47) = false := by simpa using hp47
            rw [hpd]
            cases l with
            | nil => simp [joinT, trimL_eq]
            | cons q t => simp [joinT, trimL_eq]
          · have hpd : decide (p ≠ 47) = true := by simpa using hp47
            rw [hpd]
            rcases hh with ⟨h1, h2, h3⟩ | ⟨h1, h2⟩
            · rw [if_neg (by rintro ⟨-, h | h⟩; exact hp47 h; exact h2 h), ih]
              cases l with
              | nil => simp [joinT]
              | cons q t =>
                have hx : x.head?.any (· ≠ 32) = true := by
                  rw [h1]
                  cases hrh : r.head? with
                  | none =>
                    have : r = [] := by cases r with | nil => rfl | cons _ _ => simp at hrh
                    exact absurd (h3 this) (by simp)
                  | some b => have := hnx rfl; rw [hrh] at this; simpa using this
                simp only [joinT, if_true]
                rw [trimR_cons (.inr hx)]
                rfl
            · rw [if_pos ⟨rfl, .inr h2⟩, ih, h1]
              cases l with
              | nil =>
                exfalso
                cases r with
                | nil => simp at h2
                | cons b t =>
                  have hb : b = 47 := by simpa using h2
                  rw [segs, if_pos hb] at hr
                  injection hr with _ hr
                  exact segs_ne t hr
              | cons q t => simp only [joinT, if_true, trimR_one, trimR_nil]
        · rw [if_neg (fun h => h32 h.1), ih]
          cases l with
          | nil =>
            simp only [joinT, if_true]
            split
            · rfl
            · rw [trimL_ne h32]
          | cons q t =>
            have e : (if decide (p ≠ 47) = true then c :: x else Lib.trimLeftB (c :: x) 32) = c :: x := by
              split
              · rfl
              · exact trimL_ne h32 x
            simp only [joinT, if_true]
            rw [e, trimR_cons (.inl h32)]
            rfl
end Go.Proofs.YtegcacnmcdkfiaaGreatDoor.Tit

namespace Go.Proofs.YtegcacnmcdkfiaaGreatDoor.Inl
open Doc Tit
set_option linter.unusedVariables false

/-! ### Entities -/
def dg (c : UInt8) : Bool := decide (48 ≤ c.toNat) && decide (c.toNat ≤ 57)
def num (l : List UInt8) : Nat := l.foldl (fun n c => n * 10 + (c.toNat - 48)) 0
/-- "lt;" and so on -/
def eLt : List UInt8 := [38, 108, 116, 59]
def eGt : List UInt8 := [38, 103, 116, 59]
def eAmp : List UInt8 := [38, 97, 109, 112, 59]
def eQuot : List UInt8 := [38, 113, 117, 111, 116, 59]
def entN (r : List UInt8) : Option (UInt8 × Nat) :=
  if 1 ≤ (r.takeWhile dg).length ∧ (r.takeWhile dg).length ≤ 3 ∧ r[(r.takeWhile dg).length]? = some 59 ∧ 1 ≤ num (r.takeWhile dg) ∧ num (r.takeWhile dg) ≤ 255
  then some (UInt8.ofNat (num (r.takeWhile dg)), (r.takeWhile dg).length + 3) else none
/-- the byte of the entity at the beginning, and its length -/
def ent (l : List UInt8) : Option (UInt8 × Nat) :=
  if Lib.hasPrefix l eLt then some (60, 4)
  else if Lib.hasPrefix l eGt then some (62, 4)
  else if Lib.hasPrefix l eAmp then some (38, 5)
  else if Lib.hasPrefix l eQuot then some (34, 6)
  else if Lib.hasPrefix l [38, 35] then entN (l.drop 2) else none
/-- without entities; fuel: the length -/
def decF : Nat → List UInt8 → List UInt8
  | 0, _ => []
  | _ + 1, [] => []
  | f + 1, c :: r => match ent (c :: r) with
    | some (x, n) => x :: decF f ((c :: r).drop n)
    | none => c :: decF f r
def dec (l : List UInt8) : List UInt8 := decF l.length l

/-! ### The state of a reader: the elements that have not ended, the innermost first; the text that has not ended -/
abbrev Stk := List (Int × Ins)
def el (k : Int) (t : List UInt8) (kids : Ins) : Ins := .cons k ⟨t.toArray⟩ 0 ⟨#[]⟩ ⟨#[]⟩ kids .nil
def txt (t : List UInt8) : Ins := el 1 t .nil
def addTop (x : Ins) : Stk → Stk
  | [] => []
  | (k, l) :: r => (k, l.app x) :: r
def flush (st : Stk) (p : List UInt8) : Stk := if p = [] then st else addTop (txt p) st
def endT : Stk → Stk
  | [] => []
  | (k, l) :: r => if l.len = 0 then r else addTop (el k [] l) r
def endN : Nat → Stk → Stk
  | 0, st => st
  | n + 1, st => endN n (endT st)
/-- what stands within the mark, the innermost first -/
def later (k : Int) (st : Stk) : List Int := (st.takeWhile fun e => e.1 != k).map (·.1)
def reopen : List Int → Stk → Stk
  | [], st => st
  | k :: r, st => (k, .nil) :: reopen r st
def toggle (k : Int) (st : Stk) : Stk :=
  if (later k st).length = st.length then (k, .nil) :: st else reopen (later k st) (endN ((later k st).length + 1) st)
structure S where
  stk : Stk
  pend : List UInt8
def S.add (s : S) (x : Ins) : S := ⟨addTop x (flush s.stk s.pend), []⟩
def S.letter (s : S) (c : UInt8) : S := ⟨s.stk, s.pend ++ [c]⟩
def S.toggle (s : S) (k : Int) : S := ⟨Inl.toggle k (flush s.stk s.pend), []⟩
/-- how many of n "'" belong to marks -/
def left (n : Nat) : Nat := if n = 4 then 3 else min n 5
def S.quotes (s : S) (n : Nat) : S :=
  let a : S := ⟨s.stk, s.pend ++ List.replicate (n - left n) 39⟩
  let b := if 3 ≤ left n then a.toggle 2 else a
  if left n ≠ 3 then b.toggle 3 else b
def start : S := ⟨[(0, .nil)], []⟩
/-- all that is open ends -/
def S.fin (s : S) : Ins := match endN (s.stk.length - 1) (flush s.stk s.pend) with
  | (_, l) :: _ => l
  | [] => .nil

/-! ### Links and notes; P: what a shorter text reads as -/
def bl3 (c : UInt8) : Bool := c == 9 || c == 32 || c == 95
def ws4 (c : UInt8) : Bool := c == 9 || c == 10 || c == 13 || c == 32
def trimW (p : UInt8 → Bool) (l : List UInt8) : List UInt8 := ((l.dropWhile p).reverse.dropWhile p).reverse
/-- the part before the first c, and what follows it -/
def bef (c : UInt8) (l : List UInt8) : List UInt8 := l.takeWhile (· ≠ c)
def aftr (c : UInt8) (l : List UInt8) : List UInt8 := l.drop ((bef c l).length + 1)
def has (c : UInt8) (l : List UInt8) : Bool := decide ((bef c l).length < l.length)
def label (content : List UInt8) : List UInt8 :=
  if has 124 content then aftr 124 content else if (bef 124 content).head? = some 58 then (bef 124 content).tail else bef 124 content
def lname (content : List UInt8) : List UInt8 := bef 35 (bef 124 content)
def lanchor (content : List UInt8) : List UInt8 := if has 35 (bef 124 content) then trimW ws4 (aftr 35 (bef 124 content)) else []
/-- what the content of a link reads as: nothing, or the link; none: it is no link -/
def linkC (P : List UInt8 → Ins) (c : List UInt8) : Option (Option Ins) :=
  if (lname c).any (fun x => !(bl3 x)) || decide (lanchor c = []) then
    if (parse (lname c)).2.2 ≠ 0 then none
    else if (parse (lname c)).1 = 4 ∧ ((lname c).dropWhile bl3).head? ≠ some 58 then some none
    else some (some (.cons 4 ⟨#[]⟩ (parse (lname c)).1 ⟨(parse (lname c)).2.1.toArray⟩ ⟨(lanchor c).toArray⟩ (P (label c)) .nil))
  else some (some (.cons 4 ⟨#[]⟩ 0 ⟨#[]⟩ ⟨(lanchor c).toArray⟩ (P (label c)) .nil))
/-- the link at the beginning, or nothing, and its length -/
def linkE (P : List UInt8 → Ins) (l : List UInt8) : Option (Option Ins × Nat) :=
  if Lib.hasPrefix l [91, 91] then
    if Lib.index (l.drop 2) [93, 93] = -1 then none
    else
      let c := (l.drop 2).take (Lib.index (l.drop 2) [93, 93]).toNat
      if Lib.index c [91, 91] ≠ -1 ∨ 10 ∈ c then none else (linkC P c).map fun x => (x, c.length + 4)
  else none
def word (c : UInt8) : Bool := dg c || (decide (97 ≤ c.toNat) && decide (c.toNat ≤ 122)) || (decide (65 ≤ c.toNat) && decide (c.toNat ≤ 90)) || c == 45 || c == 95
def bRef : List UInt8 := [60, 114, 101, 102]
def bRefG : List UInt8 := [60, 114, 101, 102, 62]
def bRefN : List UInt8 := [60, 114, 101, 102, 32, 110, 97, 109, 101, 61]
def bEnd : List UInt8 := [60, 47, 114, 101, 102, 62]
def bBr : List UInt8 := [60, 98, 114, 62]
def note (nm : List UInt8) (kids : Ins) : Ins := .cons 5 ⟨nm.toArray⟩ 0 ⟨#[]⟩ ⟨#[]⟩ kids .nil
/-- the content of a note behind n bytes -/
def noteC (P : List UInt8 → Ins) (nm : List UInt8) (n : Nat) (l : List UInt8) : Option (Ins × Nat) :=
  if Lib.index (l.drop n) bEnd = -1 then none
  else
    let c := (l.drop n).take (Lib.index (l.drop n) bEnd).toNat
    if Lib.index c bRef ≠ -1 then none else some (note nm (P c), n + c.length + 6)
def noteE (P : List UInt8 → Ins) (l : List UInt8) : Option (Ins × Nat) :=
  if Lib.hasPrefix l bRefG then noteC P [] 5 l
  else if Lib.hasPrefix l bRefN then
    let r := l.drop 10
    let nm := r.takeWhile word
    if nm.length < 1 ∨ 30 < nm.length then none
    else if Lib.hasPrefix (r.drop nm.length) [47, 62] then some (note nm .nil, nm.length + 12)
    else if (r.drop nm.length).head? = some 62 then noteC P nm (nm.length + 11) l
    else none
  else none

/-! ### Reading -/
inductive Ev where
  | letter (c : UInt8) (n : Nat)
  | elem (x : Ins) (n : Nat)
  | skip (n : Nat)
  | quotes (n : Nat)
def Ev.len : Ev → Nat
  | letter _ n => n
  | elem _ n => n
  | skip n => n
  | quotes n => n
def Ev.app (s : S) : Ev → S
  | letter c _ => s.letter c
  | elem x _ => s.add x
  | skip _ => s
  | quotes n => s.quotes n
def ofLink : UInt8 → Option (Option Ins × Nat) → Ev
  | c, none => .letter c 1
  | _, some (none, n) => .skip n
  | _, some (some x, n) => .elem x n
def ofNote : UInt8 → Option (Ins × Nat) → Ev
  | c, none => .letter c 1
  | _, some (x, n) => .elem x n
def ofEnt : UInt8 → Option (UInt8 × Nat) → Ev
  | c, none => .letter c 1
  | _, some (x, n) => .letter x n
def ofQuotes (n : Nat) : Ev := if n < 2 then .letter 39 1 else .quotes n
def ev (P : List UInt8 → Ins) (c : UInt8) (r : List UInt8) : Ev :=
  if c = 91 then ofLink c (linkE P (c :: r))
  else if c = 60 then (if Lib.hasPrefix (c :: r) bBr then .elem (el 6 [] .nil) 4 else ofNote c (noteE P (c :: r)))
  else if c = 38 then ofEnt c (ent (c :: r))
  else if c = 39 then ofQuotes ((c :: r).takeWhile (· = 39)).length
  else .letter c 1
/-- the state behind a text; fuel: its length -/
def run (P : List UInt8 → Ins) : Nat → S → List UInt8 → S
  | 0, s, _ => s
  | _ + 1, s, [] => s
  | f + 1, s, c :: r => run P f ((ev P c r).app s) ((c :: r).drop (ev P c r).len)
/-- what a text reads as; fuel: more than its length -/
def parseF : Nat → List UInt8 → Ins
  | 0, _ => .nil
  | d + 1, l => (run (parseF d) l.length start l).fin
end Go.Proofs.YtegcacnmcdkfiaaGreatDoor.Inl

namespace Go.Proofs.YtegcacnmcdkfiaaGreatDoor.Inl
open Doc Tit
set_option linter.unusedVariables false

theorem hp_le {s p : List UInt8} (h : Lib.hasPrefix s p = true) : p.length ≤ s.length := by
  rw [← Lib.hasPrefix_of_take, Bool.and_eq_true] at h
  exact of_decide_eq_true h.1
theorem index_nat {s sub : List UInt8} (h : Lib.index s sub ≠ -1) : ∃ i : Nat, Lib.index s sub = i ∧ i + sub.length ≤ s.length := by
  have h1 := Lib.index_ge s sub
  have h2 := Lib.index_room s sub (by omega)
  exact ⟨(Lib.index s sub).toNat, by omega, by omega⟩
theorem bef_le (c : UInt8) (l : List UInt8) : (bef c l).length ≤ l.length := tw_le _ _
theorem aftr_le (c : UInt8) (l : List UInt8) : (aftr c l).length ≤ l.length := by unfold aftr; simp
theorem label_le (c : List UInt8) : (label c).length ≤ c.length := by
  have h1 := bef_le 124 c
  have h2 := aftr_le 124 c
  unfold label
  split
  · exact h2
  · split
    · simp; omega
    · exact h1
theorem lname_le (c : List UInt8) : (lname c).length ≤ c.length := Nat.le_trans (bef_le _ _) (bef_le _ _)
theorem linkC_cong {P P' : List UInt8 → Ins} {c : List UInt8} (h : P (label c) = P' (label c)) : linkC P c = linkC P' c := by unfold linkC; rw [h]
theorem linkE_cong {P P' : List UInt8 → Ins} {l : List UInt8} (h : ∀ x, x.length < l.length → P x = P' x) : linkE P l = linkE P' l := by
  unfold linkE
  split
  · rename_i hp
    have hl := hp_le hp
    split
    · rfl
    · dsimp only
      split
      · rfl
      · rw [linkC_cong (h _ _)]
        have h1 := label_le ((l.drop 2).take (Lib.index (l.drop 2) [93, 93]).toNat)
        simp only [List.length_take, List.length_drop, List.length_cons, List.length_nil] at h1 hl
        omega
  · rfl
theorem noteC_cong {P P' : List UInt8 → Ins} {nm l : List UInt8} {n : Nat} (hn : 1 ≤ n) (hl : 1 ≤ l.length) (h : ∀ x, x.length < l.length → P x = P' x) : noteC P nm n l = noteC P' nm n l := by
  unfold noteC
  split
  · rfl
  · dsimp only
    split
    · rfl
    · rw [h]
      simp only [List.length_take, List.length_drop]
      omega
theorem noteE_cong {P P' : List UInt8 → Ins} {l : List UInt8} (h : ∀ x, x.length < l.length → P x = P' x) : noteE P l = noteE P' l := by
  unfold noteE
  split
  · rename_i hp
    have hl := hp_le hp
    exact noteC_cong (by decide) (by simp only [bRefG, List.length_cons, List.length_nil] at hl; omega) h
  · split
    · rename_i hp
      have hl := hp_le hp
      dsimp only
      split
      · rfl
      · split
        · rfl
        · split
          · exact noteC_cong (by omega) (by simp only [bRefN, List.length_cons, List.length_nil] at hl; omega) h
          · rfl
    · rfl
theorem ev_cong {P P' : List UInt8 → Ins} {c : UInt8} {r : List UInt8} (h : ∀ x, x.length < (c :: r).length → P x = P' x) : ev P c r = ev P' c r := by
  unfold ev
  rw [linkE_cong h, noteE_cong h]
theorem linkE_len {P : List UInt8 → Ins} {l : List UInt8} {x : Option Ins} {n : Nat} (h : linkE P l = some (x, n)) : 1 ≤ n ∧ n ≤ l.length := by
  unfold linkE at h
  split at h
  · rename_i hp
    have hl := hp_le hp
    split at h
    · cases h
    · rename_i hi
      obtain ⟨i, h1, h2⟩ := index_nat hi
      dsimp only at h
      split at h
      · cases h
      · cases hc : linkC P ((l.drop 2).take (Lib.index (l.drop 2) [93, 93]).toNat) with
        | none => rw [hc] at h; cases h
        | some y =>
          rw [hc] at h
          injection h with h
          injection h with _ h
          subst h
          rw [h1]
          simp only [List.length_take, List.length_drop, List.length_cons, List.length_nil] at h2 hl ⊢
          omega
  · cases h
theorem noteC_len {P : List UInt8 → Ins} {nm l : List UInt8} {k : Nat} {x : Ins} {n : Nat} (h : noteC P nm k l = some (x, n)) : 1 ≤ n ∧ n ≤ l.length := by
  unfold noteC at h
  split at h
  · cases h
  · rename_i hi
    obtain ⟨i, h1, h2⟩ := index_nat hi
    dsimp only at h
    split at h
    · cases h
    · injection h with h
      injection h with _ h
      subst h
      rw [h1]
      simp only [List.length_take, List.length_drop, bEnd, List.length_cons, List.length_nil] at h2 ⊢
      omega
theorem noteE_len {P : List UInt8 → Ins} {l : List UInt8} {x : Ins} {n : Nat} (h : noteE P l = some (x, n)) : 1 ≤ n ∧ n ≤ l.length := by
  unfold noteE at h
  split at h
  · exact noteC_len h
  · split at h
    · rename_i hp
      have hl := hp_le hp
      dsimp only at h
      split at h
      · cases h
      · split at h
        · rename_i hq
          have hl2 := hp_le hq
          injection h with h
          injection h with _ h
          subst h
          simp only [List.length_drop, bRefN, List.length_cons, List.length_nil] at hl hl2
          omega
        · split at h
          · exact noteC_len h
          · cases h
    · cases h
theorem ent_len {l : List UInt8} {x : UInt8} {n : Nat} (h : ent l = some (x, n)) : 1 ≤ n ∧ n ≤ l.length := by
  unfold ent at h
  repeat' (split at h)
  · rename_i hp
    have hl := hp_le hp
    injection h with h; injection h with _ h; subst h
    exact ⟨by decide, hl⟩
  · rename_i hp
    have hl := hp_le hp
    injection h with h; injection h with _ h; subst h
    exact ⟨by decide, hl⟩
  · rename_i hp
    have hl := hp_le hp
    injection h with h; injection h with _ h; subst h
    exact ⟨by decide, hl⟩
  · rename_i hp
    have hl := hp_le hp
    injection h with h; injection h with _ h; subst h
    exact ⟨by decide, hl⟩
  · rename_i hp
    have hl := hp_le hp
    unfold entN at h
    split at h
    · rename_i hc
      injection h with h; injection h with _ h; subst h
      obtain ⟨hr, _⟩ := List.getElem?_eq_some_iff.1 hc.2.2.1
      simp only [List.length_drop, List.length_cons, List.length_nil] at hr hl
      omega
    · cases h
  · cases h
theorem ev_len (P : List UInt8 → Ins) (c : UInt8) (r : List UInt8) : 1 ≤ (ev P c r).len ∧ (ev P c r).len ≤ (c :: r).length := by
  have h1 : (1 : Nat) ≤ 1 ∧ 1 ≤ (c :: r).length := ⟨Nat.le_refl _, by simp⟩
  unfold ev
  split
  · cases h : linkE P (c :: r) with
    | none => exact h1
    | some y =>
      obtain ⟨x, n⟩ := y
      have := linkE_len h
      cases x <;> exact this
  · split
    · split
      · rename_i hp
        have hl := hp_le hp
        exact ⟨(by decide : 1 ≤ 4), hl⟩
      · cases h : noteE P (c :: r) with
        | none => exact h1
        | some y => exact noteE_len h
    · split
      · cases h : ent (c :: r) with
        | none => exact h1
        | some y => exact ent_len h
      · split
        · unfold ofQuotes
          split
          · exact h1
          · rename_i hn
            refine ⟨?_, tw_le _ _⟩
            show 1 ≤ _
            simp only [Ev.len]
            omega
        · exact h1
theorem run_cong {P P' : List UInt8 → Ins} : ∀ (f : Nat) (s : S) (l : List UInt8), (∀ x, x.length < l.length → P x = P' x) → run P f s l = run P' f s l
  | 0, _, _, _ => rfl
  | f + 1, _, [], _ => rfl
  | f + 1, s, c :: r, h => by
    rw [run, run, ev_cong h]
    have hl := (ev_len P' c r).1
    exact run_cong f _ _ fun x hx => h x (by rw [List.length_drop] at hx; omega)
theorem run_fuel (P : List UInt8 → Ins) : ∀ (f g : Nat) (s : S) (l : List UInt8), l.length ≤ f → l.length ≤ g → run P f s l = run P g s l
  | 0, 0, _, _, _, _ => rfl
  | 0, g + 1, s, l, h, _ => by
    have : l = [] := List.length_eq_zero_iff.1 (by omega)
    subst this; rfl
  | f + 1, 0, s, l, _, h => by
    have : l = [] := List.length_eq_zero_iff.1 (by omega)
    subst this; rfl
  | f + 1, g + 1, s, [], _, _ => rfl
  | f + 1, g + 1, s, c :: r, h1, h2 => by
    rw [run, run]
    have hl := (ev_len P c r).1
    simp only [List.length_cons] at h1 h2
    exact run_fuel P f g _ _ (by rw [List.length_drop]; simp only [List.length_cons]; omega) (by rw [List.length_drop]; simp only [List.length_cons]; omega)
theorem parseF_eq : ∀ (d d' : Nat) (l : List UInt8), l.length < d → l.length < d' → parseF d l = parseF d' l
  | 0, _, l, h, _ => by omega
  | _ + 1, 0, l, _, h => by omega
  | d + 1, d' + 1, l, h1, h2 => by
    rw [parseF, parseF, run_cong _ _ l (fun x hx => parseF_eq d d' x (by omega) (by omega))]
/-- what a text reads as -/
def read (l : List UInt8) : Ins := parseF (l.length + 1) l
theorem read_of {d : Nat} {l : List UInt8} (h : l.length < d) : parseF d l = read l := parseF_eq _ _ _ h (by omega)
/-- reading on from a state -/
def goes (s : S) (l : List UInt8) : S := run read l.length s l
theorem read_goes (l : List UInt8) : read l = (goes start l).fin := by
  unfold read goes
  rw [parseF, run_cong _ _ l (fun x hx => read_of hx)]
theorem goes_nil (s : S) : goes s [] = s := rfl
theorem goes_cons (s : S) (c : UInt8) (r : List UInt8) : goes s (c :: r) = goes ((ev read c r).app s) ((c :: r).drop (ev read c r).len) := by
  unfold goes
  rw [List.length_cons, run]
  have hl := (ev_len read c r).1
  exact run_fuel _ _ _ _ _ (by rw [List.length_drop]; simp only [List.length_cons]; omega) (Nat.le_refl _)

/-! ### What may be open -/
def Ok (st : Stk) : Prop := (∃ l, st = [(0, l)]) ∨ (∃ k a l, (k = 2 ∨ k = 3) ∧ st = [(k, a), (0, l)]) ∨ (∃ k k' a b l, ((k = 2 ∧ k' = 3) ∨ (k = 3 ∧ k' = 2)) ∧ st = [(k, a), (k', b), (0, l)])
theorem Ok.addTop {st : Stk} (h : Ok st) (x : Ins) : Ok (addTop x st) := by
  rcases h with ⟨l, rfl⟩ | ⟨k, a, l, hk, rfl⟩ | ⟨k, k', a, b, l, hk, rfl⟩
  · exact .inl ⟨_, rfl⟩
  · exact .inr (.inl ⟨_, _, _, hk, rfl⟩)
  · exact .inr (.inr ⟨_, _, _, _, _, hk, rfl⟩)
theorem Ok.flush {st : Stk} (h : Ok st) (p : List UInt8) : Ok (flush st p) := by
  unfold Inl.flush
  split
  · exact h
  · exact h.addTop _
theorem endT_two (k : Int) (a : Ins) (k' : Int) (b : Ins) (r : Stk) : ∃ b', endT ((k, a) :: (k', b) :: r) = (k', b') :: r := by
  simp only [endT]
  split
  · exact ⟨b, rfl⟩
  · exact ⟨_, rfl⟩
theorem later_eq {k : Int} {a : Ins} {r : Stk} : later k ((k, a) :: r) = [] := by simp [later]
theorem later_ne {k k' : Int} {a : Ins} {r : Stk} (h : k' ≠ k) : later k ((k', a) :: r) = k' :: later k r := by simp [later, h]
theorem Ok.toggle {st : Stk} (h : Ok st) {k : Int} (hk : k = 2 ∨ k = 3) : Ok (toggle k st) := by
  have h0 : (0 : Int) ≠ k := by omega
  rcases h with ⟨l, rfl⟩ | ⟨k1, a, l, hk1, rfl⟩ | ⟨k1, k2, a, b, l, hk1, rfl⟩
  · unfold Inl.toggle
    rw [later_ne h0]
    exact .inr (.inl ⟨_, _, _, hk, rfl⟩)
  · unfold Inl.toggle
    by_cases e : k1 = k
    · subst e
      rw [later_eq]
      simp only [List.length_nil, List.length_cons, endN, reopen]
      obtain ⟨b', hb⟩ := endT_two k1 a 0 l []
      rw [if_neg (by simp), hb]
      exact .inl ⟨_, rfl⟩
    · rw [later_ne e, later_ne h0]
      rw [if_pos (by simp [later])]
      exact .inr (.inr ⟨_, _, _, _, _, by omega, rfl⟩)
  · unfold Inl.toggle
    by_cases e : k1 = k
    · subst e
      rw [later_eq]
      obtain ⟨b', hb⟩ := endT_two k1 a k2 b [(0, l)]
      rw [if_neg (by simp)]
      simp only [List.length_nil, endN, reopen, hb]
      exact .inr (.inl ⟨_, _, _, by omega, rfl⟩)
    · have e2 : k2 = k := by omega
      subst e2
      rw [later_ne e, later_eq]
      obtain ⟨b', hb⟩ := endT_two k1 a k2 b [(0, l)]
      obtain ⟨l', hl⟩ := endT_two k2 b' 0 l []
      rw [if_neg (by simp)]
      simp only [List.length_cons, List.length_nil, endN, reopen, hb, hl]
      exact .inr (.inl ⟨_, _, _, by omega, rfl⟩)
theorem Ok.app {s : S} (h : Ok s.stk) (e : Ev) : Ok (e.app s).stk := by
  cases e with
  | letter c n => exact h
  | elem x n => exact (h.flush _).addTop _
  | skip n => exact h
  | quotes n =>
    simp only [Ev.app, S.quotes]
    split
    · split
      · exact (((h.flush _).toggle (.inl rfl)).flush _).toggle (.inr rfl)
      · exact (h.flush _).toggle (.inr rfl)
    · split
      · exact (h.flush _).toggle (.inl rfl)
      · exact h
theorem ok_start : Ok start.stk := .inl ⟨_, rfl⟩
theorem Ok.run {P : List UInt8 → Ins} : ∀ (f : Nat) (s : S) (l : List UInt8), Ok s.stk → Ok (run P f s l).stk
  | 0, _, _, h => h
  | _ + 1, _, [], h => h
  | f + 1, s, c :: r, h => Ok.run f _ _ (h.app _)
theorem Ok.goes {s : S} (h : Ok s.stk) (l : List UInt8) : Ok (goes s l).stk := Ok.run _ _ _ h

/-! ### How much there is -/
def tot : Stk → Nat
  | [] => 0
  | (_, l) :: r => l.len + tot r
def S.m (s : S) : Nat := tot s.stk + s.pend.length
theorem el_len (k : Int) (t : List UInt8) (a : Ins) : (el k t a).len = 1 := rfl
theorem tot_addTop (x : Ins) : ∀ st, tot (addTop x st) ≤ tot st + x.len
  | [] => by simp [addTop, tot]
  | (k, l) :: r => by simp only [addTop, tot, Ins.len_app]; omega
theorem tot_flush (st : Stk) (p : List UInt8) : tot (flush st p) ≤ tot st + p.length := by
  unfold flush
  split
  · omega
  · rename_i h
    have h1 := tot_addTop (txt p) st
    have h2 : (txt p).len = 1 := rfl
    have h3 : 0 < p.length := List.length_pos_iff.2 h
    omega
theorem tot_endT : ∀ st, tot (endT st) ≤ tot st
  | [] => Nat.le_refl _
  | (k, l) :: r => by
    simp only [endT]
    split
    · simp only [tot]; omega
    · have := tot_addTop (el k [] l) r
      rw [el_len] at this
      simp only [tot]; omega
theorem tot_endN : ∀ n st, tot (endN n st) ≤ tot st
  | 0, st => Nat.le_refl _
  | n + 1, st => Nat.le_trans (tot_endN n _) (tot_endT st)
theorem tot_reopen : ∀ l st, tot (reopen l st) = tot st
  | [], st => rfl
  | k :: r, st => by simp only [reopen, tot, Ins.len, tot_reopen r st]; omega
theorem tot_toggle (k : Int) (st : Stk) : tot (toggle k st) ≤ tot st := by
  unfold toggle
  split
  · simp only [tot, Ins.len]; omega
  · rw [tot_reopen]; exact tot_endN _ _
theorem m_toggle (s : S) (k : Int) : (s.toggle k).m ≤ s.m := by
  have h1 := tot_flush s.stk s.pend
  have h2 := tot_toggle k (flush s.stk s.pend)
  simp only [S.m, S.toggle, List.length_nil]; omega
theorem m_app (s : S) (e : Ev) (he : ∀ x n, e = .elem x n → x.len ≤ 1) (h1 : 1 ≤ e.len) : (e.app s).m ≤ s.m + e.len := by
  cases e with
  | letter c n => simp only [Ev.app, S.letter, S.m, List.length_append, List.length_singleton, Ev.len] at h1 ⊢; omega
  | elem x n =>
    have h2 := tot_flush s.stk s.pend
    have h3 := tot_addTop x (flush s.stk s.pend)
    have h4 := he x n rfl
    simp only [Ev.app, S.add, S.m, List.length_nil, Ev.len] at h1 ⊢; omega
  | skip n => simp only [Ev.app, Ev.len]; omega
  | quotes n =>
    simp only [Ev.app, S.quotes, Ev.len]
    have ha : (S.mk s.stk (s.pend ++ List.replicate (n - left n) 39)).m ≤ s.m + n := by
      simp only [S.m, List.length_append, List.length_replicate]; omega
    split
    · split
      · exact Nat.le_trans (m_toggle _ _) (Nat.le_trans (m_toggle _ _) ha)
      · exact Nat.le_trans (m_toggle _ _) ha
    · split
      · exact Nat.le_trans (m_toggle _ _) ha
      · exact ha
end Go.Proofs.YtegcacnmcdkfiaaGreatDoor.Inl

namespace Go.Proofs.YtegcacnmcdkfiaaGreatDoor.Inl
open Doc Tit
set_option linter.unusedVariables false

theorem decF_fuel : ∀ (f g : Nat) (l : List UInt8), l.length ≤ f → l.length ≤ g → decF f l = decF g l
  | 0, 0, _, _, _ => rfl
  | 0, g + 1, l, h, _ => by
    have : l = [] := List.length_eq_zero_iff.1 (by omega)
    subst this; rfl
  | f + 1, 0, l, _, h => by
    have : l = [] := List.length_eq_zero_iff.1 (by omega)
    subst this; rfl
  | f + 1, g + 1, [], _, _ => rfl
  | f + 1, g + 1, c :: r, h1, h2 => by
    rw [decF, decF]
    simp only [List.length_cons] at h1 h2
    cases he : ent (c :: r) with
    | none => simp only []; rw [decF_fuel f g r (by omega) (by omega)]
    | some y =>
      obtain ⟨x, n⟩ := y
      have hl := (ent_len he).1
      simp only []
      rw [decF_fuel f g _ (by rw [List.length_drop]; simp only [List.length_cons]; omega) (by rw [List.length_drop]; simp only [List.length_cons]; omega)]
theorem dec_nil : dec [] = [] := rfl
theorem dec_some {l : List UInt8} {x : UInt8} {n : Nat} (h : ent l = some (x, n)) : dec l = x :: dec (l.drop n) := by
  have hl := ent_len h
  cases l with
  | nil => simp at hl; omega
  | cons c r =>
    unfold dec
    rw [List.length_cons, decF, h]
    simp only []
    rw [decF_fuel r.length ((c :: r).drop n).length _ (by rw [List.length_drop]; simp only [List.length_cons]; omega) (Nat.le_refl _)]
theorem dec_none {c : UInt8} {r : List UInt8} (h : ent (c :: r) = none) : dec (c :: r) = c :: dec r := by
  unfold dec
  rw [List.length_cons, decF, h]

/-! ### The reader of the reference: it marks whether text was read last -/
/-- a byte more in the last text -/
def more (c : UInt8) : Ins → Ins
  | .nil => .nil
  | .cons a t s n h k .nil => .cons a ⟨(t.data.toList ++ [c]).toArray⟩ s n h k .nil
  | .cons a t s n h k r => .cons a t s n h k (more c r)
theorem more_txt (c : UInt8) (p : List UInt8) : ∀ l : Ins, more c (l.app (txt p)) = l.app (txt (p ++ [c]))
  | .nil => rfl
  | .cons a t s n h k r => by
    have e := more_txt c p r
    cases r with
    | nil => exact congrArg _ e
    | cons a' t' s' n' h' k' r' => exact congrArg _ e
end Go.Proofs.YtegcacnmcdkfiaaGreatDoor.Inl

namespace Go.Proofs.YtegcacnmcdkfiaaGreatDoor.Inl
open Tit
set_option linter.unusedVariables false

theorem num_snoc (l : List UInt8) (c : UInt8) : num (l ++ [c]) = num l * 10 + (c.toNat - 48) := by unfold num; rw [List.foldl_append]; rfl
theorem num_fold : ∀ (l : List UInt8) (n k : Nat), (∀ c ∈ l, dg c = true) → n < 10 ^ k → l.foldl (fun n c => n * 10 + (c.toNat - 48)) n < 10 ^ (k + l.length)
  | [], n, k, _, h => h
  | c :: r, n, k, h, hn => by
    have h2 := h c (by simp)
    unfold dg at h2
    rw [Bool.and_eq_true, decide_eq_true_eq, decide_eq_true_eq] at h2
    rw [List.foldl_cons, List.length_cons, show k + (r.length + 1) = (k + 1) + r.length by omega]
    exact num_fold r _ _ (fun x hx => h x (by simp [hx])) (by rw [Nat.pow_succ]; omega)
theorem num_le (l : List UInt8) (h : ∀ c ∈ l, dg c = true) : num l < 10 ^ l.length := by
  have := num_fold l 0 0 h (by decide)
  rwa [Nat.zero_add] at this
theorem tw_all {p : UInt8 → Bool} : ∀ (l : List UInt8), ∀ c ∈ l.takeWhile p, p c = true
  | [], c, h => by simp at h
  | a :: r, c, h => by
    rw [List.takeWhile_cons] at h
    cases ha : p a with
    | true =>
      rw [ha] at h
      rcases List.mem_cons.1 h with rfl | h
      · exact ha
      · exact tw_all r c h
    | false => rw [ha] at h; simp at h
theorem dg_eq (c : UInt8) : dg c = (decide (48 ≤ c.toNat) && decide (c.toNat ≤ 57)) := rfl
/-- what stands behind "&#", told by the digits that were read -/
theorem entN_read (r : List UInt8) (m : Nat) (hm : m ≤ 3) (hl : m ≤ r.length) (h1 : ∀ c ∈ r.take m, dg c = true) (h2 : m < 3 → ∀ h : m < r.length, dg r[m] = false) :
    entN r = if 1 ≤ m ∧ r[m]? = some 59 ∧ 1 ≤ num (r.take m) ∧ num (r.take m) ≤ 255 then some (UInt8.ofNat (num (r.take m)), m + 3) else none := by
  have h59 : dg 59 = false := by decide
  have hp : ∀ (k : Nat) (hk : k ≤ r.length), (∀ c ∈ r.take k, dg c = true) → k ≤ (r.takeWhile dg).length := by
    intro k hk hh
    rw [← List.take_append_drop k r, List.takeWhile_append_of_pos hh, List.length_append, List.length_take]
    omega
  have hD := hp m hl h1
  have htk : ∀ k, k ≤ (r.takeWhile dg).length → r.take k = (r.takeWhile dg).take k := by
    intro k hk
    have := (List.takeWhile_prefix (p := dg) (l := r))
    obtain ⟨t, ht⟩ := this
    rw [← ht, List.take_append_of_le_length hk]
    rw [ht]
  by_cases e : (r.takeWhile dg).length = m
  · have e2 : r.takeWhile dg = r.take m := by rw [htk m hD, ← e, List.take_length]
    unfold entN
    rw [e, e2]
    by_cases hc : 1 ≤ m ∧ r[m]? = some 59 ∧ 1 ≤ num (r.take m) ∧ num (r.take m) ≤ 255
    · rw [if_pos hc, if_pos ⟨hc.1, hm, hc.2.1, hc.2.2.1, hc.2.2.2⟩]
    · rw [if_neg hc, if_neg (fun h => hc ⟨h.1, h.2.2.1, h.2.2.2.1, h.2.2.2.2⟩)]
  · have hlt : m < (r.takeWhile dg).length := by omega
    have hlr : m < r.length := Nat.lt_of_lt_of_le hlt (tw_le _ _)
    have hdm : dg r[m] = true := by
      have hmem : r[m] ∈ r.takeWhile dg := by
        have h3 := htk (m + 1) hlt
        have h4 : r[m] ∈ r.take (m + 1) := by
          rw [List.mem_take_iff_getElem]
          exact ⟨m, by omega, rfl⟩
        rw [h3] at h4
        exact List.mem_of_mem_take h4
      exact tw_all _ _ hmem
    have hm3 : m = 3 := by
      by_cases h : m < 3
      · rw [h2 h hlr] at hdm; cases hdm
      · omega
    have hne : r[m]? ≠ some 59 := by
      rw [List.getElem?_eq_getElem hlr]
      intro h
      injection h with h
      rw [h, h59] at hdm; cases hdm
    unfold entN
    rw [if_neg (by omega), if_neg (fun h => hne h.2.1)]
end Go.Proofs.YtegcacnmcdkfiaaGreatDoor.Inl

namespace Go.Proofs.YtegcacnmcdkfiaaGreatDoor.Inl
open Doc Tit
set_option linter.unusedVariables false

theorem endN_snoc : ∀ (n : Nat) (st : Stk), endN (n + 1) st = endT (endN n st)
  | 0, st => rfl
  | n + 1, st => by
    rw [endN, endN_snoc n (endT st)]
    rfl
theorem addTop_length (x : Ins) : ∀ st : Stk, (addTop x st).length = st.length
  | [] => rfl
  | (k, l) :: r => rfl
theorem endT_length {st : Stk} (h : 2 ≤ st.length) : (endT st).length = st.length - 1 := by
  match st, h with
  | (k, l) :: r, h =>
    rw [endT]
    split
    · simp
    · rw [addTop_length]; simp
theorem endN_length : ∀ (n : Nat) (st : Stk), n < st.length → (endN n st).length = st.length - n
  | 0, st, _ => by simp [endN]
  | n + 1, st, h => by
    rw [endN_snoc, endT_length (by rw [endN_length n st (by omega)]; omega), endN_length n st (by omega)]
    omega
theorem len_tot {k : Int} {l : Ins} : ∀ {st : Stk}, (k, l) ∈ st → l.len ≤ tot st
  | (k', l') :: r, h => by
    rcases List.mem_cons.1 h with h | h
    · injection h with h1 h2; subst h2; simp [tot]
    · have := len_tot h; simp only [tot]; omega
theorem reopen_eq : ∀ (l : List Int) (st : Stk), reopen l st = l.map (fun k => (k, Ins.nil)) ++ st
  | [], st => rfl
  | k :: r, st => by rw [reopen, reopen_eq r st]; rfl
theorem tw_self {α : Type} {p : α → Bool} : ∀ {l : List α}, (∀ x ∈ l, p x = true) → l.takeWhile p = l
  | [], _ => rfl
  | a :: r, h => by
    rw [List.takeWhile_cons_of_pos (h a (List.mem_cons_self ..)), tw_self fun x hx => h x (List.mem_cons_of_mem _ hx)]
theorem toggle_none {k : Int} {L : List (Int × Ins)} (h : ∀ x ∈ L, x.1 ≠ k) : toggle k L.reverse = (k, .nil) :: L.reverse := by
  have e : later k L.reverse = L.reverse.map (·.1) := by
    unfold later
    rw [tw_self]
    intro x hx
    simpa using h x (List.mem_reverse.1 hx)
  unfold toggle
  rw [e, if_pos (by simp)]
theorem toggle_at {k : Int} {A C : List (Int × Ins)} {l : Ins} (h : ∀ x ∈ C, x.1 ≠ k) :
    (toggle k (A ++ (k, l) :: C).reverse).reverse = (endN (C.length + 1) (A ++ (k, l) :: C).reverse).reverse ++ (C.map (·.1)).map (fun k => (k, Ins.nil)) := by
  have e0 : (A ++ (k, l) :: C).reverse = C.reverse ++ (k, l) :: A.reverse := by simp
  have e : later k (A ++ (k, l) :: C).reverse = C.reverse.map (·.1) := by
    unfold later
    rw [e0, List.takeWhile_append_of_pos (by intro x hx; simpa using h x (List.mem_reverse.1 hx)), List.takeWhile_cons_of_neg (by simp)]
    simp
  unfold toggle
  rw [e, if_neg (by simp), reopen_eq]
  simp
end Go.Proofs.YtegcacnmcdkfiaaGreatDoor.Inl

namespace Go.Proofs.YtegcacnmcdkfiaaGreatDoor.Inl
open Doc Tit
set_option linter.unusedVariables false

theorem mem_sqF {x : UInt8} : ∀ (s out : List UInt8), x ∈ sqF out s → x ∈ out ∨ ∃ c ∈ s, unb c = x
  | [], out, h => .inl h
  | c :: r, out, h => by
    rw [sqF] at h
    split at h
    · rcases mem_sqF r out h with h | ⟨d, h1, h2⟩
      · exact .inl h
      · exact .inr ⟨d, List.mem_cons_of_mem _ h1, h2⟩
    · rcases mem_sqF r _ h with h | ⟨d, h1, h2⟩
      · rcases List.mem_append.1 h with h | h
        · exact .inl h
        · exact .inr ⟨c, List.mem_cons_self .., (List.mem_singleton.1 h).symm⟩
      · exact .inr ⟨d, List.mem_cons_of_mem _ h1, h2⟩
theorem mem_chop {x : UInt8} {l : List UInt8} (h : x ∈ chop l) : x ∈ l := by
  unfold chop at h
  split at h
  · exact (List.dropLast_sublist l).subset h
  · exact h
theorem mem_dropOne {x : UInt8} {l : List UInt8} (h : x ∈ dropOne l) : x ∈ l := by
  unfold dropOne at h
  split at h
  · exact List.mem_of_mem_tail h
  · exact h
theorem mem_rawS {x : UInt8} {l : List UInt8} (h : x ∈ rawS l) : x ∈ sq l := by
  unfold rawS at h
  split at h
  · exact List.mem_of_mem_tail (mem_dropOne h)
  · exact h
theorem tw_self_mem {c : UInt8} : ∀ {l : List UInt8}, ¬ (l.takeWhile (· ≠ c)).length = l.length → c ∈ l
  | [], h => absurd rfl h
  | a :: r, h => by
    by_cases e : a = c
    · subst e; exact List.mem_cons_self ..
    · refine List.mem_cons_of_mem _ (tw_self_mem (fun h2 => h ?_))
      rw [List.takeWhile_cons_of_pos (by simpa using e)]
      simp only [List.length_cons, h2]
theorem parse_colon {s : List UInt8} (h : (parse s).1 ≠ 0) : 58 ∈ s := by
  have h1 : (rawT s).1 ≠ 0 := by
    intro e
    unfold parse at h
    split at h
    · exact h rfl
    · split at h
      · exact h e
      · exact h rfl
  have h2 : ∃ y, pre (rawS s) = some y := by
    unfold rawT at h1
    cases hp : pre (rawS s) with
    | none => rw [hp] at h1; exact absurd rfl h1
    | some y => exact ⟨y, rfl⟩
  obtain ⟨y, hy⟩ := h2
  have h3 : (58 : UInt8) ∈ rawS s := by
    unfold pre at hy
    split at hy
    · cases hy
    · rename_i hne
      exact tw_self_mem hne
  have h4 := mem_chop (mem_rawS h3)
  rcases mem_sqF _ _ h4 with h5 | ⟨c, h5, h6⟩
  · cases h5
  · unfold unb at h6
    split at h6
    · cases h6
    · rw [← h6]; exact h5
theorem not_blank {l : List UInt8} (h : 58 ∈ l) : (l.takeWhile bl3).length < l.length := by
  induction l with
  | nil => cases h
  | cons a r ih =>
    rw [List.takeWhile_cons]
    cases hb : bl3 a with
    | false => simp
    | true =>
      rcases List.mem_cons.1 h with e | e
      · rw [← e] at hb; cases hb
      · have := ih e
        simp only [if_true, List.length_cons]
        omega
end Go.Proofs.YtegcacnmcdkfiaaGreatDoor.Inl

namespace Go.Proofs.YtegcacnmcdkfiaaGreatDoor.Inl
open Doc Tit
set_option linter.unusedVariables false

theorem hp_cons (a b : UInt8) (p r : List UInt8) : Lib.hasPrefix (a :: r) (b :: p) = ((b == a) && Lib.hasPrefix r p) := rfl
theorem hp_other {a b : UInt8} (h : a ≠ b) (p r : List UInt8) : Lib.hasPrefix (a :: r) (b :: p) = false := by
  rw [hp_cons]
  have : (b == a) = false := by simpa using fun e : b = a => h e.symm
  rw [this]; rfl
theorem link_other {P : List UInt8 → Ins} {c : UInt8} {r : List UInt8} (h : c ≠ 91) : linkE P (c :: r) = none := by
  unfold linkE; rw [hp_other h]; rfl
theorem note_other {P : List UInt8 → Ins} {c : UInt8} {r : List UInt8} (h : c ≠ 60) : noteE P (c :: r) = none := by
  unfold noteE bRefG bRefN; rw [hp_other h, hp_other h]; rfl
theorem br_other {c : UInt8} {r : List UInt8} (h : c ≠ 60) : Lib.hasPrefix (c :: r) bBr = false := by unfold bBr; exact hp_other h _ _
theorem ent_other {c : UInt8} {r : List UInt8} (h : c ≠ 38) : ent (c :: r) = none := by
  unfold ent eLt eGt eAmp eQuot
  rw [hp_other h, hp_other h, hp_other h, hp_other h, hp_other h]; rfl
theorem quote_other {c : UInt8} {r : List UInt8} (h : c ≠ 39) : Lib.hasPrefix (c :: r) [39, 39] = false := hp_other h _ _
theorem br_note {P : List UInt8 → Ins} {l : List UInt8} (h : Lib.hasPrefix l bBr = true) : noteE P l = none := by
  match l, h with
  | [], h => cases h
  | [a], h => simp [bBr, Lib.hasPrefix] at h
  | a :: b :: r, h =>
    unfold bBr at h
    rw [hp_cons, hp_cons, Bool.and_eq_true, Bool.and_eq_true] at h
    have hb : b = 98 := (by simpa using h.2.1 : 98 = b).symm
    subst hb
    have h1 : ∀ p, Lib.hasPrefix (a :: 98 :: r) (60 :: 114 :: p) = false := fun p => by
      rw [hp_cons, hp_other (by decide)]; simp
    unfold noteE bRefG bRefN
    rw [h1, h1]; rfl
theorem quote_two (r : List UInt8) : Lib.hasPrefix (39 :: r) [39, 39] = decide (2 ≤ ((39 :: r).takeWhile (· = 39)).length) := by
  rw [hp_cons]
  cases r with
  | nil => rfl
  | cons b r =>
    rw [hp_cons]
    by_cases h : b = 39
    · subst h; simp; rfl
    · have e : (39 == b) = false := by simpa using fun e : 39 = b => h e.symm
      rw [e]
      simp [h]
/-- what stands at the beginning, asked in the reference's order -/
def evR (P : List UInt8 → Ins) (c : UInt8) (r : List UInt8) : Ev :=
  match linkE P (c :: r) with
  | some (none, n) => .skip n
  | some (some x, n) => .elem x n
  | none => match noteE P (c :: r) with
    | some (x, n) => .elem x n
    | none => if Lib.hasPrefix (c :: r) bBr then .elem (el 6 [] .nil) 4 else match ent (c :: r) with
      | some (x, n) => .letter x n
      | none => if Lib.hasPrefix (c :: r) [39, 39] then .quotes ((c :: r).takeWhile (· = 39)).length else .letter c 1
theorem ev_ref (P : List UInt8 → Ins) (c : UInt8) (r : List UInt8) : ev P c r = evR P c r := by
  unfold ev evR
  by_cases h1 : c = 91
  · subst h1
    rw [if_pos rfl, note_other (by decide), br_other (by decide), ent_other (by decide), quote_other (by decide)]
    cases h : linkE P (91 :: r) with
    | none => rfl
    | some y => obtain ⟨x, n⟩ := y; cases x <;> rfl
  · rw [if_neg h1, link_other h1]
    by_cases h2 : c = 60
    · subst h2
      rw [if_pos rfl, ent_other (by decide), quote_other (by decide)]
      cases hb : Lib.hasPrefix (60 :: r) bBr with
      | true => rw [br_note hb]; rfl
      | false =>
        cases h : noteE P (60 :: r) with
        | none => rfl
        | some y => rfl
    · rw [if_neg h2, note_other h2, br_other h2]
      by_cases h3 : c = 38
      · subst h3
        rw [if_pos rfl, quote_other (by decide)]
        cases h : ent (38 :: r) with
        | none => rfl
        | some y => rfl
      · rw [if_neg h3, ent_other h3]
        by_cases h4 : c = 39
        · subst h4
          rw [if_pos rfl, quote_two]
          unfold ofQuotes
          by_cases h5 : ((39 :: r).takeWhile (· = 39)).length < 2
          · rw [if_pos h5, decide_eq_false (by omega)]; rfl
          · rw [if_neg h5, decide_eq_true (by omega)]; rfl
        · rw [if_neg h4, quote_other h4]; rfl
theorem linkC_len {P : List UInt8 → Ins} {c : List UInt8} {x : Ins} (h : linkC P c = some (some x)) : x.len = 1 := by
  unfold linkC at h
  split at h
  · split at h
    · cases h
    · split at h
      · cases h
      · injection h with h; injection h with h; rw [← h]; rfl
  · injection h with h; injection h with h; rw [← h]; rfl
theorem link_len1 {P : List UInt8 → Ins} {l : List UInt8} {x : Ins} {n : Nat} (h : linkE P l = some (some x, n)) : x.len = 1 := by
  unfold linkE at h
  split at h
  · split at h
    · cases h
    · dsimp only at h
      split at h
      · cases h
      · cases hc : linkC P ((l.drop 2).take (Lib.index (l.drop 2) [93, 93]).toNat) with
        | none => rw [hc] at h; cases h
        | some y =>
          rw [hc] at h
          injection h with h
          injection h with h _
          subst h
          exact linkC_len hc
  · cases h
theorem noteC_len1 {P : List UInt8 → Ins} {nm l : List UInt8} {k n : Nat} {x : Ins} (h : noteC P nm k l = some (x, n)) : x.len = 1 := by
  unfold noteC at h
  split at h
  · cases h
  · dsimp only at h
    split at h
    · cases h
    · injection h with h; injection h with h _; rw [← h]; rfl
theorem note_len1 {P : List UInt8 → Ins} {l : List UInt8} {x : Ins} {n : Nat} (h : noteE P l = some (x, n)) : x.len = 1 := by
  unfold noteE at h
  split at h
  · exact noteC_len1 h
  · split at h
    · dsimp only at h
      split at h
      · cases h
      · split at h
        · injection h with h; injection h with h _; rw [← h]; rfl
        · split at h
          · exact noteC_len1 h
          · cases h
    · cases h
end Go.Proofs.YtegcacnmcdkfiaaGreatDoor.Inl

namespace Go.Proofs.YtegcacnmcdkfiaaGreatDoor.Inl
open Go.RowKit Doc Tit
set_option linter.unusedVariables false

/-! ### The form of an element -/
theorem linkC_form {P : List UInt8 → Ins} {c : List UInt8} {x : Ins} (h : linkC P c = some (some x)) :
    (x = .cons 4 ⟨#[]⟩ (parse (lname c)).1 ⟨(parse (lname c)).2.1.toArray⟩ ⟨(lanchor c).toArray⟩ (P (label c)) .nil ∧ (parse (lname c)).2.2 = 0) ∨ (x = .cons 4 ⟨#[]⟩ 0 ⟨#[]⟩ ⟨(lanchor c).toArray⟩ (P (label c)) .nil ∧ lanchor c ≠ []) := by
  unfold linkC at h
  split at h
  · split at h
    · cases h
    · rename_i h0
      split at h
      · cases h
      · injection h with h; injection h with h
        exact .inl ⟨h.symm, by omega⟩
  · rename_i hn
    injection h with h; injection h with h
    refine .inr ⟨h.symm, fun e => hn ?_⟩
    rw [e]; simp
theorem link_form {P : List UInt8 → Ins} {l : List UInt8} {x : Ins} {n : Nat} (h : linkE P l = some (some x, n)) : ∃ c, linkC P c = some (some x) ∧ n = c.length + 4 ∧ n ≤ l.length := by
  have hl := (linkE_len h).2
  unfold linkE at h
  split at h
  · split at h
    · cases h
    · dsimp only at h
      split at h
      · cases h
      · obtain ⟨c, hc⟩ : ∃ c, c = (l.drop 2).take (Lib.index (l.drop 2) [93, 93]).toNat := ⟨_, rfl⟩
        rw [← hc] at h
        cases hv : linkC P c with
        | none => rw [hv] at h; cases h
        | some y =>
          rw [hv] at h
          injection h with h
          injection h with h1 h2
          exact ⟨c, by rw [hv, h1], h2.symm, hl⟩
  · cases h
theorem noteC_form {P : List UInt8 → Ins} {nm l : List UInt8} {k n : Nat} {x : Ins} (h : noteC P nm k l = some (x, n)) : ∃ c, x = note nm (P c) ∧ c.length + 6 ≤ n := by
  unfold noteC at h
  split at h
  · cases h
  · dsimp only at h
    split at h
    · cases h
    · injection h with h; injection h with h1 h2
      exact ⟨_, h1.symm, by omega⟩
theorem note_form {P : List UInt8 → Ins} {l : List UInt8} {x : Ins} {n : Nat} (h : noteE P l = some (x, n)) : n ≤ l.length ∧ ((∃ nm, x = note nm .nil ∧ 6 ≤ n) ∨ ∃ nm c, x = note nm (P c) ∧ c.length + 6 ≤ n) := by
  refine ⟨(noteE_len h).2, ?_⟩
  unfold noteE at h
  split at h
  · obtain ⟨c, hc⟩ := noteC_form h
    exact .inr ⟨_, c, hc⟩
  · split at h
    · dsimp only at h
      split at h
      · cases h
      · split at h
        · injection h with h; injection h with h1 h2
          exact .inl ⟨_, h1.symm, by omega⟩
        · split at h
          · obtain ⟨c, hc⟩ := noteC_form h
            exact .inr ⟨_, c, hc⟩
          · cases h
    · cases h
theorem ev_form {P : List UInt8 → Ins} {c : UInt8} {r : List UInt8} {x : Ins} {n : Nat} (h : ev P c r = .elem x n) : (x = el 6 [] .nil ∧ n = 4) ∨ linkE P (c :: r) = some (some x, n) ∨ noteE P (c :: r) = some (x, n) := by
  unfold ev at h
  split at h
  · cases hv : linkE P (c :: r) with
    | none => rw [hv] at h; cases h
    | some y =>
      obtain ⟨y, m⟩ := y
      cases y with
      | none => rw [hv] at h; cases h
      | some y =>
        rw [hv] at h
        injection h with h1 h2
        subst h1 h2
        exact .inr (.inl rfl)
  · split at h
    · split at h
      · injection h with h1 h2
        exact .inl ⟨h1.symm, h2.symm⟩
      · cases hv : noteE P (c :: r) with
        | none => rw [hv] at h; cases h
        | some y =>
          obtain ⟨y, m⟩ := y
          rw [hv] at h
          injection h with h1 h2
          subst h1 h2
          exact .inr (.inr rfl)
    · split at h
      · cases hv : ent (c :: r) with
        | none => rw [hv] at h; cases h
        | some y => rw [hv] at h; cases h
      · split at h
        · unfold ofQuotes at h
          split at h
          · cases h
          · cases h
        · cases h
theorem ev_quotes {P : List UInt8 → Ins} {c : UInt8} {r : List UInt8} {n : Nat} (h : ev P c r = .quotes n) : c = 39 ∧ 2 ≤ n ∧ n = ((c :: r).takeWhile (fun c => decide (c = 39))).length := by
  unfold ev at h
  split at h
  · cases hv : linkE P (c :: r) with
    | none => rw [hv] at h; cases h
    | some y =>
      obtain ⟨y, m⟩ := y
      rw [hv] at h
      cases y <;> cases h
  · split at h
    · split at h
      · cases h
      · cases hv : noteE P (c :: r) with
        | none => rw [hv] at h; cases h
        | some y => rw [hv] at h; cases h
    · split at h
      · cases hv : ent (c :: r) with
        | none => rw [hv] at h; cases h
        | some y => rw [hv] at h; cases h
      · split at h
        · rename_i hc
          unfold ofQuotes at h
          split at h
          · cases h
          · rename_i h2
            injection h with h
            exact ⟨hc, by omega, h.symm⟩
        · cases h

/-! ### How many elements there are -/
def zt : Stk → Nat
  | [] => 0
  | (_, l) :: r => l.size + 1 + zt r
def S.z (s : S) : Nat := zt s.stk + s.pend.length
theorem el_size (k : Int) (t : List UInt8) (a : Ins) : (el k t a).size = a.size + 1 := by simp only [el, Ins.size]
theorem zt_addTop (x : Ins) : ∀ st, zt (addTop x st) ≤ zt st + x.size
  | [] => by simp [addTop, zt]
  | (k, l) :: r => by simp only [addTop, zt, Ins.size_app]; omega
theorem zt_flush (st : Stk) (p : List UInt8) : zt (flush st p) ≤ zt st + p.length := by
  unfold flush
  split
  · omega
  · rename_i h
    have h1 := zt_addTop (txt p) st
    have h2 : (txt p).size = 1 := rfl
    have h3 : 0 < p.length := List.length_pos_iff.2 h
    omega
theorem zt_endT : ∀ st, zt (endT st) ≤ zt st
  | [] => Nat.le_refl _
  | (k, l) :: r => by
    simp only [endT]
    split
    · simp only [zt]; omega
    · have := zt_addTop (el k [] l) r
      rw [el_size] at this
      simp only [zt]; omega
theorem zt_endN : ∀ n st, zt (endN n st) ≤ zt st
  | 0, st => Nat.le_refl _
  | n + 1, st => Nat.le_trans (zt_endN n _) (zt_endT st)
theorem zt_reopen : ∀ l st, zt (reopen l st) = zt st + l.length
  | [], st => rfl
  | k :: r, st => by simp only [reopen, zt, Ins.size, zt_reopen r st, List.length_cons]; omega
theorem zt_toggle (k : Int) (st : Stk) (h : st.length ≤ 3) : zt (toggle k st) ≤ zt st + 3 := by
  have hl : (later k st).length ≤ st.length := by
    unfold later
    rw [List.length_map]
    exact tw_len _ _
  unfold toggle
  split
  · simp only [zt, Ins.size]; omega
  · rw [zt_reopen]
    have := zt_endN ((later k st).length + 1) st
    omega
where tw_len (p : Int × Ins → Bool) : ∀ l : Stk, (l.takeWhile p).length ≤ l.length
  | [] => Nat.le_refl _
  | a :: r => by
    rw [List.takeWhile_cons]
    split
    · have := tw_len p r
      simp only [List.length_cons]; omega
    · simp
theorem ok_le {st : Stk} (h : Ok st) : st.length ≤ 3 := by
  rcases h with ⟨l, rfl⟩ | ⟨k, a, l, _, rfl⟩ | ⟨k, k', a, b, l, _, rfl⟩ <;> simp
theorem z_toggle (s : S) (k : Int) (h : Ok s.stk) : (s.toggle k).z ≤ s.z + 3 := by
  have h1 := zt_flush s.stk s.pend
  have h2 := zt_toggle k (flush s.stk s.pend) (ok_le (h.flush _))
  simp only [S.z, S.toggle, List.length_nil]; omega
theorem z_app (s : S) (e : Ev) (hs : Ok s.stk) (he : ∀ x n, e = .elem x n → x.size ≤ 3 * n) (hq : ∀ n, e = .quotes n → 2 ≤ n) (h1 : 1 ≤ e.len) : (e.app s).z ≤ s.z + 3 * e.len := by
  cases e with
  | letter c n => simp only [Ev.app, S.letter, S.z, List.length_append, List.length_singleton, Ev.len] at h1 ⊢; omega
  | elem x n =>
    have h2 := zt_flush s.stk s.pend
    have h3 := zt_addTop x (flush s.stk s.pend)
    have h4 := he x n rfl
    simp only [Ev.app, S.add, S.z, List.length_nil, Ev.len] at h1 ⊢; omega
  | skip n => simp only [Ev.app, Ev.len]; omega
  | quotes n =>
    have h5 := hq n rfl
    simp only [Ev.app, S.quotes, Ev.len]
    have hl : left n ≤ n := by unfold left; split <;> omega
    have ha : (S.mk s.stk (s.pend ++ List.replicate (n - left n) 39)).z ≤ s.z + (n - left n) := by
      simp only [S.z, List.length_append, List.length_replicate]; omega
    have ho : Ok (S.mk s.stk (s.pend ++ List.replicate (n - left n) 39)).stk := hs
    generalize S.mk s.stk (s.pend ++ List.replicate (n - left n) 39) = a at ha ho
    have hb := z_toggle a 2 ho
    have hb3 := z_toggle a 3 ho
    have hbo : Ok (a.toggle 2).stk := (ho.flush _).toggle (.inl rfl)
    have hc := z_toggle (a.toggle 2) 3 hbo
    split
    · split <;> omega
    · split <;> omega
theorem z_run {P : List UInt8 → Ins} (L : Nat) (hP : ∀ x : List UInt8, x.length < L → (P x).size ≤ 3 * x.length) : ∀ (f : Nat) (s : S) (l : List UInt8), Ok s.stk → l.length ≤ L → (run P f s l).z ≤ s.z + 3 * l.length
  | 0, s, l, _, _ => by simp only [run]; omega
  | _ + 1, s, [], _, _ => by simp only [run]; omega
  | f + 1, s, c :: r, h, hl => by
    have h1 := ev_len P c r
    have h2 := z_app s (ev P c r) h (fun x n e => by
      rcases ev_form e with ⟨rfl, rfl⟩ | e | e
      · exact (by decide : 1 ≤ 3 * 4)
      · obtain ⟨d, hd, hn, hnl⟩ := link_form e
        have hla := label_le d
        have hz := hP (label d) (by omega)
        have hx : x.size = (P (label d)).size + 1 := by
          rcases linkC_form hd with ⟨rfl, _⟩ | ⟨rfl, _⟩ <;> simp only [Ins.size] <;> omega
        omega
      · obtain ⟨hnl, ⟨nm, rfl, h6⟩ | ⟨nm, d, rfl, h6⟩⟩ := note_form e
        · simp only [note, Ins.size]; omega
        · have hz := hP d (by omega)
          simp only [note, Ins.size]; omega) (fun n e => (ev_quotes e).2.1) h1.1
    have h3 := z_run L hP f ((ev P c r).app s) ((c :: r).drop (ev P c r).len) (h.app _) (by rw [List.length_drop]; omega)
    rw [List.length_drop] at h3
    simp only [run]
    omega
theorem fin_size (s : S) : s.fin.size ≤ s.z := by
  have h1 := zt_endN (s.stk.length - 1) (flush s.stk s.pend)
  have h2 := zt_flush s.stk s.pend
  unfold S.fin S.z
  split
  · rename_i k l r h
    rw [h] at h1
    simp only [zt] at h1
    omega
  · simp only [Ins.size]; omega
theorem fin_size1 (s : S) : s.fin.size ≤ s.z - 1 := by
  have h1 := zt_endN (s.stk.length - 1) (flush s.stk s.pend)
  have h2 := zt_flush s.stk s.pend
  unfold S.fin S.z
  split
  · rename_i k l r h
    rw [h] at h1
    simp only [zt] at h1
    omega
  · simp only [Ins.size]; omega
theorem parseF_size : ∀ (d : Nat) (l : List UInt8), (parseF d l).size ≤ 3 * l.length
  | 0, l => by simp [parseF, Ins.size]
  | d + 1, l => by
    have h1 := z_run (P := parseF d) l.length (fun x _ => parseF_size d x) l.length start l ok_start (Nat.le_refl _)
    have h2 := fin_size1 (run (parseF d) l.length start l)
    have h3 : start.z = 1 := rfl
    rw [parseF]
    omega
theorem read_size (l : List UInt8) : (read l).size ≤ 3 * l.length := parseF_size _ _
end Go.Proofs.YtegcacnmcdkfiaaGreatDoor.Inl

namespace Go.Proofs.YtegcacnmcdkfiaaGreatDoor.Inl
open Go.RowKit Doc Tit
set_option linter.unusedVariables false

/-- a byte that begins no markup -/
def pl (c : UInt8) : Prop := c ≠ 91 ∧ c ≠ 60 ∧ c ≠ 38 ∧ c ≠ 39
theorem ev_pl (P : List UInt8 → Ins) {c : UInt8} {r : List UInt8} (h : pl c) : ev P c r = .letter c 1 := by
  obtain ⟨h1, h2, h3, h4⟩ := h
  unfold ev
  rw [if_neg h1, if_neg h2, if_neg h3, if_neg h4]
theorem goes_letter (s : S) {c x : UInt8} {r : List UInt8} {n : Nat} (h : ev read c r = .letter x n) : goes s (c :: r) = goes (s.letter x) ((c :: r).drop n) := by
  rw [goes_cons, h]; rfl
theorem goes_pl : ∀ (l r : List UInt8) (s : S), (∀ c ∈ l, pl c) → goes s (l ++ r) = goes ⟨s.stk, s.pend ++ l⟩ r
  | [], r, s, _ => by rw [List.append_nil]; rfl
  | c :: l, r, s, h => by
    rw [List.cons_append, goes_letter s (ev_pl read (h c List.mem_cons_self))]
    show goes _ (l ++ r) = _
    rw [goes_pl l r _ fun c hc => h c (List.mem_cons_of_mem _ hc)]
    simp [S.letter]
theorem read_pl {l : List UInt8} (h : ∀ c ∈ l, pl c) : read l = if l = [] then .nil else txt l := by
  rw [read_goes]
  have h1 := goes_pl l [] start h
  rw [List.append_nil] at h1
  rw [h1, goes_nil]
  split
  · rename_i e; subst e; rfl
  · rename_i e
    simp [S.fin, start, flush, e, endN, addTop, Ins.app]
theorem dec_pl : ∀ {l : List UInt8}, (∀ c ∈ l, c ≠ 38) → dec l = l
  | [], _ => rfl
  | c :: l, h => by
    rw [dec_none (ent_other (h c List.mem_cons_self)), dec_pl fun c hc => h c (List.mem_cons_of_mem _ hc)]
theorem tw_quotes : ∀ (n : Nat) (r : List UInt8), r.head? ≠ some 39 → ((List.replicate n 39 ++ r).takeWhile (fun c => decide (c = 39))).length = n
  | 0, [], _ => rfl
  | 0, c :: r, h => by
    have hc : c ≠ 39 := fun e => h (by rw [e]; rfl)
    simp [hc]
  | n + 1, r, h => by
    rw [List.replicate_succ, List.cons_append, List.takeWhile_cons_of_pos (by simp), List.length_cons, tw_quotes n r h]
theorem goes_quotes (s : S) (n : Nat) (hn : 2 ≤ n) (r : List UInt8) (h : r.head? ≠ some 39) : goes s (List.replicate n 39 ++ r) = goes (s.quotes n) r := by
  obtain ⟨k, rfl⟩ : ∃ k, n = k + 1 := ⟨n - 1, by omega⟩
  have h1 := tw_quotes (k + 1) r h
  have h2 : (List.replicate (k + 1) (39 : UInt8) ++ r).drop (k + 1) = r := by rw [List.drop_append]; simp
  rw [List.replicate_succ, List.cons_append] at h1 h2 ⊢
  rw [goes_cons]
  have he : ev read 39 (List.replicate k 39 ++ r) = .quotes (k + 1) := by
    unfold ev
    rw [if_neg (by decide), if_neg (by decide), if_neg (by decide), if_pos rfl, h1]
    unfold ofQuotes
    rw [if_neg (by omega)]
  rw [he]
  show goes _ (List.drop (k + 1) _) = _
  rw [h2]
  rfl
theorem head_pl {l : List UInt8} (h : ∀ c ∈ l, pl c) (hl : l ≠ []) (r : List UInt8) : (l ++ r).head? ≠ some 39 := by
  cases l with
  | nil => exact absurd rfl hl
  | cons c l =>
    intro e
    have := (h c List.mem_cons_self).2.2.2
    exact this (by simpa using e)
/-- quotes, plain text, quotes -/
theorem goes_three (n m : Nat) (hn : 2 ≤ n) (hm : 2 ≤ m) {l : List UInt8} (h : ∀ c ∈ l, pl c) (hl : l ≠ []) :
    goes start (List.replicate n 39 ++ l ++ List.replicate m 39) = (S.mk (start.quotes n).stk ((start.quotes n).pend ++ l)).quotes m := by
  rw [List.append_assoc, goes_quotes start n hn _ (head_pl h hl _), goes_pl l _ _ h]
  have := goes_quotes ⟨(start.quotes n).stk, (start.quotes n).pend ++ l⟩ m hm [] (by simp)
  rw [List.append_nil] at this
  rw [this, goes_nil]
theorem quotes_2 (st : Stk) (p : List UInt8) : (S.mk st p).quotes 2 = ⟨toggle 3 (flush st p), []⟩ := by simp [S.quotes, left, S.toggle]
theorem quotes_3 (st : Stk) (p : List UInt8) : (S.mk st p).quotes 3 = ⟨toggle 2 (flush st p), []⟩ := by simp [S.quotes, left, S.toggle]
theorem quotes_5 (st : Stk) (p : List UInt8) : (S.mk st p).quotes 5 = ⟨toggle 3 (toggle 2 (flush st p)), []⟩ := by simp [S.quotes, left, S.toggle, flush]
theorem quotes_more (st : Stk) (p : List UInt8) (n : Nat) : (S.mk st p).quotes (n + 5) = ⟨toggle 3 (toggle 2 (flush st (p ++ List.replicate n 39))), []⟩ := by
  have h : left (n + 5) = 5 := by unfold left; rw [if_neg (by omega)]; omega
  unfold S.quotes
  rw [h, Nat.add_sub_cancel]
  simp [S.toggle, flush]
theorem flush_nil (st : Stk) : flush st [] = st := rfl
theorem flush_txt {l : List UInt8} (hl : l ≠ []) (k : Int) (a : Ins) (r : Stk) : flush ((k, a) :: r) l = (k, a.app (txt l)) :: r := by simp [flush, hl, addTop]
theorem txt_ne (l : List UInt8) : (txt l).len = 1 := rfl
theorem toggle_new (k : Int) (hk : k ≠ 0) (a : Ins) : toggle k [(0, a)] = [(k, .nil), (0, a)] := by
  unfold toggle
  rw [later_ne (fun e => hk e.symm)]
  rfl
theorem toggle_out (k : Int) {x : Ins} (hx : x.len ≠ 0) (a : Ins) : toggle k [(k, x), (0, a)] = [(0, a.app (el k [] x))] := by
  unfold toggle
  rw [later_eq]
  simp [endN, endT, hx, addTop, reopen]
theorem toggle_empty (k : Int) (a : Ins) : toggle k [(k, .nil), (0, a)] = [(0, a)] := by
  unfold toggle
  rw [later_eq]
  simp [endN, endT, Ins.len, reopen]
/-- a text between marks -/
theorem read_bold {l : List UInt8} (h : ∀ c ∈ l, pl c) (hl : l ≠ []) : read ([39, 39, 39] ++ l ++ [39, 39, 39]) = el 2 [] (txt l) := by
  rw [read_goes]
  have h1 := goes_three 3 3 (by decide) (by decide) h hl
  have e : List.replicate 3 (39 : UInt8) = [39, 39, 39] := rfl
  rw [e] at h1
  rw [h1, start, quotes_3, quotes_3]
  simp only [flush_nil, List.nil_append, toggle_new 2 (by decide), flush_txt hl, Ins.app, toggle_out 2 (x := txt l) (by rw [txt_ne]; decide)]
  rfl
theorem read_italic {l : List UInt8} (h : ∀ c ∈ l, pl c) (hl : l ≠ []) : read ([39, 39] ++ l ++ [39, 39]) = el 3 [] (txt l) := by
  rw [read_goes]
  have h1 := goes_three 2 2 (by decide) (by decide) h hl
  have e : List.replicate 2 (39 : UInt8) = [39, 39] := rfl
  rw [e] at h1
  rw [h1, start, quotes_2, quotes_2]
  simp only [flush_nil, List.nil_append, toggle_new 3 (by decide), flush_txt hl, Ins.app, toggle_out 3 (x := txt l) (by rw [txt_ne]; decide)]
  rfl
theorem read_open {l : List UInt8} (h : ∀ c ∈ l, pl c) (hl : l ≠ []) : read ([39, 39] ++ l) = el 3 [] (txt l) := by
  rw [read_goes]
  have h0 := goes_quotes start 2 (by decide) (l ++ []) (head_pl h hl _)
  have e : List.replicate 2 (39 : UInt8) = [39, 39] := rfl
  rw [e, goes_pl l [] _ h, List.append_nil, goes_nil] at h0
  rw [h0, start, quotes_2]
  simp only [flush_nil, List.nil_append, toggle_new 3 (by decide)]
  simp [S.fin, flush_txt hl, endN, endT, Ins.app, addTop, txt_ne]
theorem toggle_both (l : List UInt8) (a : Ins) : toggle 3 (toggle 2 [(3, txt l), (2, .nil), (0, a)]) = [(0, a.app (el 2 [] (el 3 [] (txt l))))] := by
  have h : toggle 2 [(3, txt l), (2, .nil), (0, a)] = [(3, .nil), (0, a.app (el 2 [] (el 3 [] (txt l))))] := by
    unfold toggle
    rw [later_ne (by decide), later_eq]
    simp [endN, endT, txt_ne, addTop, reopen, Ins.app, el_len]
  rw [h, toggle_empty]
theorem toggle_33 (a : Ins) : toggle 3 (toggle 2 [(0, a)]) = [(3, .nil), (2, .nil), (0, a)] := by
  rw [toggle_new 2 (by decide)]
  unfold toggle
  rw [later_ne (by decide), later_ne (by decide)]
  rfl
theorem read_both {l : List UInt8} (h : ∀ c ∈ l, pl c) (hl : l ≠ []) : read ([39, 39, 39, 39, 39] ++ l ++ [39, 39, 39, 39, 39]) = el 2 [] (el 3 [] (txt l)) := by
  rw [read_goes]
  have h1 := goes_three 5 5 (by decide) (by decide) h hl
  have e : List.replicate 5 (39 : UInt8) = [39, 39, 39, 39, 39] := rfl
  rw [e] at h1
  rw [h1, start, quotes_5, quotes_5]
  simp only [flush_nil, List.nil_append, toggle_33, flush_txt hl, Ins.app, toggle_both]
  rfl
theorem read_more (n : Nat) {l : List UInt8} (h : ∀ c ∈ l, pl c) (hl : l ≠ []) : read (List.replicate (n + 1 + 5) 39 ++ l ++ [39, 39, 39, 39, 39]) = (txt (List.replicate (n + 1) 39)).app (el 2 [] (el 3 [] (txt l))) := by
  rw [read_goes]
  have h1 := goes_three (n + 1 + 5) 5 (by omega) (by decide) h hl
  have e : List.replicate 5 (39 : UInt8) = [39, 39, 39, 39, 39] := rfl
  have hr : List.replicate (n + 1) (39 : UInt8) ≠ [] := by simp
  rw [e] at h1
  rw [h1, start, quotes_more _ _ (n + 1), quotes_5, List.nil_append, flush_txt hr]
  simp only [List.nil_append, toggle_33, flush_txt hl, Ins.app, toggle_both]
  rfl

/-! ### Written entities -/
/-- "&#", three digits, ";" -/
def ent3 (c : UInt8) : List UInt8 := [38, 35, UInt8.ofNat (48 + c.toNat / 100), UInt8.ofNat (48 + c.toNat / 10 % 10), UInt8.ofNat (48 + c.toNat % 10), 59]
def ents : List UInt8 → List UInt8
  | [] => []
  | c :: l => ent3 c ++ ents l
theorem ents_snoc : ∀ (l : List UInt8) (c : UInt8), ents (l ++ [c]) = ents l ++ ent3 c
  | [], c => by simp [ents]
  | a :: l, c => by simp [ents, ents_snoc l c]
theorem ents_len : ∀ l : List UInt8, (ents l).length = 6 * l.length
  | [] => rfl
  | c :: l => by simp [ents, ent3, ents_len l]; omega
theorem entN_3 {a b c : UInt8} {r : List UInt8} (ha : dg a = true) (hb : dg b = true) (hc : dg c = true) (h1 : 1 ≤ num [a, b, c]) (h2 : num [a, b, c] ≤ 255) :
    entN (a :: b :: c :: 59 :: r) = some (UInt8.ofNat (num [a, b, c]), 6) := by
  have e : (a :: b :: c :: 59 :: r).takeWhile dg = [a, b, c] := by
    simp [List.takeWhile_cons, ha, hb, hc]
    decide
  unfold entN
  rw [e, if_pos ⟨by simp, by simp, by simp, h1, h2⟩]
  rfl
theorem ent_ent3 (c : UInt8) (hc : c ≠ 0) (r : List UInt8) : ent (ent3 c ++ r) = some (c, 6) := by
  have hn : c.toNat < 256 := c.toNat_lt
  have h0 : c.toNat ≠ 0 := fun e => hc (by rw [← UInt8.ofNat_toNat (x := c), e]; rfl)
  have e1 : ∀ k : Nat, k ≤ 9 → (UInt8.ofNat (48 + k)).toNat = 48 + k := fun k hk => by rw [UInt8.toNat_ofNat']; omega
  have d1 : ∀ k : Nat, k ≤ 9 → dg (UInt8.ofNat (48 + k)) = true := fun k hk => by
    rw [dg_eq, e1 k hk]; simp; omega
  have en : num [UInt8.ofNat (48 + c.toNat / 100), UInt8.ofNat (48 + c.toNat / 10 % 10), UInt8.ofNat (48 + c.toNat % 10)] = c.toNat := by
    simp only [num, List.foldl_cons, List.foldl_nil, e1 _ (show c.toNat / 100 ≤ 9 by omega), e1 _ (show c.toNat / 10 % 10 ≤ 9 by omega), e1 _ (show c.toNat % 10 ≤ 9 by omega)]
    omega
  show ent (38 :: 35 :: _) = _
  have hx := entN_3 (r := r) (d1 _ (show c.toNat / 100 ≤ 9 by omega)) (d1 _ (show c.toNat / 10 % 10 ≤ 9 by omega)) (d1 _ (show c.toNat % 10 ≤ 9 by omega)) (by rw [en]; omega) (by rw [en]; omega)
  rw [en, UInt8.ofNat_toNat] at hx
  unfold ent eLt eGt eAmp eQuot
  rw [if_neg (by simp [hp_cons]), if_neg (by simp [hp_cons]), if_neg (by simp [hp_cons]), if_neg (by simp [hp_cons]), if_pos (by simp [Lib.hasPrefix])]
  exact hx
theorem drop_ent3 (c : UInt8) (r : List UInt8) : (ent3 c ++ r).drop 6 = r := rfl
theorem goes_ents : ∀ (l : List UInt8) (s : S), (∀ c ∈ l, c ≠ 0) → goes s (ents l) = ⟨s.stk, s.pend ++ l⟩
  | [], s, _ => by simp [ents, goes_nil]
  | c :: l, s, h => by
    have he := ent_ent3 c (h c List.mem_cons_self) (ents l)
    have hd := drop_ent3 c (ents l)
    have hv : ev read 38 ((ent3 c ++ ents l).tail) = .letter c 6 := by
      unfold ev
      rw [if_neg (by decide), if_neg (by decide), if_pos rfl]
      show ofEnt 38 (ent (ent3 c ++ ents l)) = _
      rw [he]; rfl
    have hg := goes_letter s hv
    show goes s (ent3 c ++ ents l) = _
    have hs : ent3 c ++ ents l = 38 :: (ent3 c ++ ents l).tail := rfl
    rw [hs, hg, ← hs, hd, goes_ents l _ fun c hc => h c (List.mem_cons_of_mem _ hc)]
    simp [S.letter]
theorem read_ents {l : List UInt8} (h : ∀ c ∈ l, c ≠ 0) : read (ents l) = if l = [] then .nil else txt l := by
  rw [read_goes, goes_ents l _ h]
  split
  · rename_i e; subst e; rfl
  · rename_i e
    simp [S.fin, start, flush, e, endN, addTop, Ins.app]
theorem dec_ents : ∀ {l : List UInt8}, (∀ c ∈ l, c ≠ 0) → dec (ents l) = l
  | [], _ => rfl
  | c :: l, h => by
    show dec (ent3 c ++ ents l) = _
    rw [dec_some (ent_ent3 c (h c List.mem_cons_self) _), drop_ent3, dec_ents fun c hc => h c (List.mem_cons_of_mem _ hc)]
end Go.Proofs.YtegcacnmcdkfiaaGreatDoor.Inl
