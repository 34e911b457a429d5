/-
  The claim's own texts, packed. Conditions: those typed in each theorem.
-/
import Derived.Test.YthieinfonomeeaaGreatDoorZAac
import Derived.Test.YthieinfonomeeaaGreatDoorZAad
import Derived.Lib.SplitLaws
import Derived.Lib.CountLaws
namespace Go.Proofs.YthieinfonomeeaaGreatDoor.Blk
open Doc Tit Inl
set_option linter.unusedVariables false
theorem pair_pre (a x y : UInt8) (s : Line) : Lib.hasPrefix (x :: y :: s) [a, a] = (decide (x = a) && decide (y = a)) := by
 rw [hp_cons, hp_cons]
 have : Lib.hasPrefix s [] = true := by cases s <;> rfl
 rw [this, Bool.and_true]
 rw [Bool.eq_iff_iff]
 simp only [Bool.and_eq_true, beq_iff_eq, decide_eq_true_eq]
 exact ⟨fun h => ⟨h.1.symm, h.2.symm⟩, fun h => ⟨h.1.symm, h.2.symm⟩⟩
theorem spl2_none (a : UInt8) : ∀ s : Line, Lib.index s [a, a] = -1 → spl2 a s = [s]
 | [], _ => rfl
 | [x], _ => rfl
 | x :: y :: s, h => by
   rw [index_cons] at h
   by_cases hp : Lib.hasPrefix (x :: y :: s) [a, a] = true
   ·rw [if_pos hp] at h; omega
   rw [if_neg hp] at h
   have hs : Lib.index (y :: s) [a, a] = -1 := by
    by_cases hs : Lib.index (y :: s) [a, a] = -1
    ·exact hs
    ·rw [if_neg (by simpa using hs)] at h
     have := Lib.index_ge (y :: s) [a, a]
     omega
   rw [pair_pre] at hp
   rw [spl2, if_neg (by simpa using hp), spl2_none a (y :: s) hs]
   rfl
theorem spl2_some (a : UInt8) : ∀ (s : Line) (i : Nat), Lib.index s [a, a] = i → spl2 a s = s.take i :: spl2 a (s.drop (i + 2))
 | [], i, h => by
   have : Lib.index ([] : Line) [a, a] = -1 := rfl
   omega
 | [x], i, h => by
   have h1 : Lib.index [x] [a, a] = -1 := by
    rw [index_cons]
    have : Lib.hasPrefix [x] [a, a] = false := by rw [hp_cons]; simp [Lib.hasPrefix]
    rw [this]; rfl
   omega
 | x :: y :: s, i, h => by
   rw [index_cons] at h
   by_cases hp : Lib.hasPrefix (x :: y :: s) [a, a] = true
   ·rw [if_pos hp] at h
    have hi : i = 0 := by omega
    subst hi
    rw [pair_pre] at hp
    rw [spl2, if_pos (by simpa using hp)]
    rfl
   ·rw [if_neg hp] at h
    by_cases hs : Lib.index (y :: s) [a, a] = -1
    ·rw [hs] at h; simp at h
     try omega
    ·rw [if_neg (by simpa using hs)] at h
     have hg := Lib.index_ge (y :: s) [a, a]
     obtain ⟨j, rfl⟩ : ∃ j, i = j + 1 := ⟨i - 1, by omega⟩
     have ih := spl2_some a (y :: s) j (by omega)
     rw [pair_pre] at hp
     rw [spl2, if_neg (by simpa using hp), ih]
     rfl
theorem split_pairs (a : UInt8) : ∀ (N : Nat) (s : Line), s.length ≤ N → Lib.splitK [a, a] 0 (Lib.count s [a, a]) s = spl2 a s
 | 0, s, h => by
   have : s = [] := List.length_eq_zero_iff.1 (by omega)
   subst this
   rfl
 | N + 1, s, h => by
   by_cases hi : Lib.index s [a, a] = -1
   ·rw [spl2_none a s hi, Lib.count_miss hi]
    rfl
   ·obtain ⟨i, h1, h2⟩ := index_nat hi
    simp only [List.length_cons, List.length_nil] at h2
    rw [spl2_some a s i h1, Lib.count_hit (by simp) h1]
    rw [Nat.add_comm 1, Lib.splitK, h1, if_neg (by simp)]
    simp only [Int.toNat_natCast, Nat.add_zero, List.length_cons, List.length_nil]
    rw [split_pairs a N _ (by rw [List.length_drop]; omega)]
theorem split_lines (c : UInt8) : ∀ (s : List UInt8) (k : Nat), s.count c ≤ k → Lib.splitK [c] 0 k s = spl c s
 | [], k, h => by
   cases k with
   | zero => rfl
   | succ k => rw [Lib.splitK]; rfl
 | x :: l, k, h => by
   by_cases e : x = c
   ·subst e
    rw [List.count_cons_self] at h
    obtain ⟨k, rfl⟩ : ∃ k', k = k' + 1 := ⟨k - 1, by omega⟩
    rw [Lib.splitK, index_cons_eq]
    rw [if_neg (by decide)]
    simp only [Int.toNat_zero, Nat.add_zero, List.take_zero, List.length_cons, List.length_nil, Nat.zero_add, List.drop_succ_cons, List.drop_zero]
    rw [split_lines x l k (by omega)]
    simp [spl]
   ·rw [List.count_cons_of_ne e] at h
    have ih := split_lines c l k h
    have hi := index_cons_ne e l
    have hs : spl c (x :: l) = onto x (spl c l) := by rw [spl, if_neg e]
    have ho : ∀ L : List Line, onto x L = match L with | [] => [[x]] | a :: m => (x :: a) :: m := fun L => by cases L <;> rfl
    rw [hs, ho]
    cases k with
    | zero =>
      rw [Lib.splitK] at ih ⊢
      rw [← ih]
    | succ k =>
      rw [Lib.splitK] at ih ⊢
      rw [hi]
      by_cases em : Lib.index l [c] = -1
      ·rw [if_pos em]
       rw [em] at ih
       simp only [BEq.rfl, if_true] at ih ⊢
       rw [← ih]
      ·have hg := Lib.index_ge l [c]
       have e1 : (Lib.index l [c] == -1) = false := by simpa using em
       have e2 : (Lib.index l [c] + 1 == -1) = false := by simp; omega
       rw [if_neg em, e2]
       rw [e1] at ih
       simp only [Bool.false_eq_true, if_false] at ih ⊢
       rw [← ih]
       rw [show (Lib.index l [c] + 1).toNat = (Lib.index l [c]).toNat + 1 by omega]
       simp only [Nat.add_zero, List.take_succ_cons]
       rw [show (Lib.index l [c]).toNat + 1 + ([c] : List UInt8).length = (Lib.index l [c]).toNat + ([c] : List UInt8).length + 1 by rw [List.length_singleton], List.drop_succ_cons]
end Go.Proofs.YthieinfonomeeaaGreatDoor.Blk
