/-
  The claim's own texts, packed. Conditions: those typed in each theorem.
-/
import Derived.Test.YtcklofamaooegaaGreatDoorZKaax
import Derived.Laws.IdiomStrings
import Derived.Lib.BufferRead
import Derived.Lib.TrimByte
set_option maxHeartbeats 4000000
set_option maxRecDepth 10000
set_option linter.unusedVariables false
namespace Go.Proofs.YtcklofamaooegaaGreatDoor
open Go.RowKit
def BIn (w : World) (g : Nat) (l : List UInt8) : Prop := g < w.heap.size ∧ ∀ j (hj : j < l.length), w.cell? ⟨g, j, none⟩ = some (.int .u8 ((l[j]).toNat : Int)) ∧ w.frozen? ⟨g, j, none⟩ = false
theorem BIn.below {w w' : World} {g : Nat} {l : List UInt8} (h : BIn w g l) (hb : Below w.heap.size w w') : BIn w' g l :=
 ⟨Nat.lt_of_lt_of_le h.1 hb.size, fun j hj => ⟨(hb.cell (p := ⟨g, j, none⟩) h.1).trans (h.2 j hj).1, (hb.frozen (p := ⟨g, j, none⟩) h.1).trans (h.2 j hj).2⟩⟩
theorem BIn.put {w : World} {g : Nat} {l : List UInt8} (h : BIn w g l) {k : Nat} (hk : k < l.length) (c : UInt8) : BIn (w.setCell ⟨g, k, none⟩ (.int .u8 (c.toNat : Int))) g (l.set k c) := by
 refine ⟨by rw [World.size_setCell]; exact h.1, fun j hj => ?_⟩
 rw [List.length_set] at hj
 obtain ⟨h1, h2⟩ := h.2 j hj
 have hkc := (h.2 k hk).1
 by_cases e : k = j
 ·subst e
  simp only [List.getElem_set_self]
  refine ⟨?_, ?_⟩
  ·unfold World.cell? at hkc ⊢
   simp only [World.setCell, Array.getElem?_modify]
   cases hb : w.heap[g]? with
   | none => rw [hb] at hkc; cases hkc
   | some o =>
     rw [hb] at hkc
     cases o with
     | cells C t fr =>
       simp only [Option.isSome_none, Bool.false_eq_true, if_false] at hkc ⊢
       have := (Array.getElem?_eq_some_iff.1 hkc).1
       simp [this]
     | _ => cases hkc
  ·rw [← h2]
   unfold World.frozen?
   simp only [World.setCell, Array.getElem?_modify]
   cases hb : w.heap[g]? with
   | none => rfl
   | some o => cases o <;> rfl
 ·rw [List.getElem_set_ne e]
  refine ⟨?_, ?_⟩
  ·rw [← h1]
   unfold World.cell?
   simp only [World.setCell, Array.getElem?_modify]
   cases hb : w.heap[g]? with
   | none => rfl
   | some o =>
     cases o with
     | cells C t fr => simp [e]
     | _ => rfl
  ·rw [← h2]
   unfold World.frozen?
   simp only [World.setCell, Array.getElem?_modify]
   cases hb : w.heap[g]? with
   | none => rfl
   | some o => cases o <;> rfl
theorem conv_to (w : World) (s : ByteArray) (hs : s.size ≤ maxLen) : ∃ cap C, s.size ≤ cap ∧ cap ≤ maxLen ∧ (convert 9 43 (.string s)).run Tryz.prog w = .ok (.slice (some ⟨w.heap.size, 0, none⟩) s.size cap) (w.drew.alloc (.cells C 5 (C.size, C.size + 1))) ∧
  BIn (w.alloc (.cells C 5 (C.size, C.size + 1))).drew w.heap.size s.data.toList ∧ Below w.heap.size w (w.alloc (.cells C 5 (C.size, C.size + 1))).drew := by
 refine ⟨grownCap w s.size 0 5, bytesRow s (grownCap w s.size 0 5), grownCap_ge _ _ _ _, grownCap_le_maxLen _ _ _ _ hs, run_bytes_of_string w 9 43 5 s Tryz.underlying9 Tryz.underlying43 Tryz.underlying5, ?_, ((Below.refl _ _).alloc (Nat.le_refl _) _).drew⟩
 have hsz : s.data.toList.length = s.size := by simp
 refine ⟨by show w.heap.size < (w.heap.push _).size; simp, fun j hj => ⟨?_, ?_⟩⟩
 ·have h1 := World.cell?_alloc_mark w (bytesRow s (grownCap w s.size 0 5)) 5 ((bytesRow s (grownCap w s.size 0 5)).size, (bytesRow s (grownCap w s.size 0 5)).size + 1) j
  have h2 : (w.alloc (.cells (bytesRow s (grownCap w s.size 0 5)) 5 ((bytesRow s (grownCap w s.size 0 5)).size, (bytesRow s (grownCap w s.size 0 5)).size + 1))).drew.cell? ⟨w.heap.size, j, none⟩ = (bytesRow s (grownCap w s.size 0 5))[j]? := h1
  rw [h2]
  unfold bytesRow
  have hj2 : j < s.data.size := by simpa using hj
  rw [Array.getElem?_append_left (by simpa using hj2)]
  simp only [Array.getElem?_map, Array.getElem?_eq_getElem hj2, Option.map_some]
  rfl
 ·have hb : (w.alloc (.cells (bytesRow s (grownCap w s.size 0 5)) 5 ((bytesRow s (grownCap w s.size 0 5)).size, (bytesRow s (grownCap w s.size 0 5)).size + 1))).drew.heap[w.heap.size]? = some (.cells (bytesRow s (grownCap w s.size 0 5)) 5 ((bytesRow s (grownCap w s.size 0 5)).size, (bytesRow s (grownCap w s.size 0 5)).size + 1)) := by
   show (w.heap.push _)[w.heap.size]? = _
   simp
  unfold World.frozen?
  rw [hb]
  have hz : s.size ≤ (bytesRow s (grownCap w s.size 0 5)).size := by
   unfold bytesRow
   simp only [Array.size_append, Array.size_map]
   have : s.data.size = s.size := rfl
   omega
  simp only [Bool.and_eq_false_imp, decide_eq_true_eq, decide_eq_false_iff_not]
  omega
theorem conv_from {w : World} {g : Nat} {l : List UInt8} (h : BIn w g l) (n cap : Nat) (hn : n = l.length) : (convert 43 9 (.slice (some ⟨g, 0, none⟩) n cap)).run Tryz.prog w = .ok (.string ⟨l.toArray⟩) w := by
 subst hn
 refine run_convert_bytes_back w 43 9 5 ⟨g, 0, none⟩ cap l Tryz.underlying43 Tryz.underlying5 Tryz.underlying9 fun j hj => ?_
 rw [add_at, Nat.zero_add]
 exact (h.2 j hj).1
theorem byte_at (s : ByteArray) (k : Nat) (hk : k < s.size) : ∃ h : k < s.data.toList.length, s[k] = s.data.toList[k] := ⟨by simpa using hk, rfl⟩
end Go.Proofs.YtcklofamaooegaaGreatDoor
