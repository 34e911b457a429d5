/-
  The claim's own texts, packed. Conditions: those typed in each theorem.
-/
import Derived.Test.YthieinfonomeeaaGreatDoorZAac
import Derived.Test.YthieinfonomeeaaGreatDoorZAag
namespace Go.Proofs.YthieinfonomeeaaGreatDoor
open Go.RowKit Doc
set_option linter.unusedVariables false
def SL (w : World) (p : Option Addr) (c : Nat) (l : List ByteArray) : Prop :=
 l.length ≤ c ∧ c ≤ 9223372036854775807 ∧ (l = [] ∨ ∃ b o, p = some ⟨b, o, none⟩ ∧ b < w.heap.size ∧ ∀ j x, l[j]? = some x → w.cell? ⟨b, o + j, none⟩ = some (.string x))
theorem SL.below {w w' : World} {p : Option Addr} {c : Nat} {l : List ByteArray} (h : SL w p c l) (hb : Below w.heap.size w w') : SL w' p c l := by
 obtain ⟨h1, h2, h3⟩ := h
 refine ⟨h1, h2, ?_⟩
 rcases h3 with h3 | ⟨b, o, rfl, hl, h4⟩
 ·exact .inl h3
 ·exact .inr ⟨b, o, rfl, Nat.lt_of_lt_of_le hl hb.size, fun j x hj => (hb.cell (p := ⟨b, o + j, none⟩) hl).trans (h4 j x hj)⟩
theorem SL.head {w : World} {p : Option Addr} {c : Nat} {x : ByteArray} {l : List ByteArray} (h : SL w p c (x :: l)) :
  ∃ b o, p = some ⟨b, o, none⟩ ∧ b < w.heap.size ∧ ∀ j y, (x :: l)[j]? = some y → w.cell? ⟨b, o + j, none⟩ = some (.string y) := by
 rcases h.2.2 with h | h
 ·cases h
 ·exact h
theorem SL.take {w : World} {p : Option Addr} {c : Nat} {l : List ByteArray} (h : SL w p c l) (n : Nat) (hn : n ≤ l.length) : SL w p c (l.take n) := by
 obtain ⟨h1, h2, h3⟩ := h
 refine ⟨by rw [List.length_take]; omega, h2, ?_⟩
 rcases h3 with rfl | ⟨b, o, rfl, hl, h4⟩
 ·exact .inl (by simp)
 ·refine .inr ⟨b, o, rfl, hl, fun j x hj => h4 j x ?_⟩
  rw [List.getElem?_take] at hj
  split at hj
  ·exact hj
  ·cases hj
theorem SL.drop {w : World} {b o c : Nat} {l : List ByteArray} (h : SL w (some ⟨b, o, none⟩) c l) (hb : b < w.heap.size) (hc : ∀ j x, l[j]? = some x → w.cell? ⟨b, o + j, none⟩ = some (.string x)) (n : Nat) (hn : n ≤ l.length) :
  SL w (some ⟨b, o + n, none⟩) (c - n) (l.drop n) := by
 obtain ⟨h1, h2, -⟩ := h
 refine ⟨by rw [List.length_drop]; omega, by omega, .inr ⟨b, o + n, rfl, hb, fun j x hj => ?_⟩⟩
 rw [List.getElem?_drop] at hj
 rw [Nat.add_assoc]
 exact hc _ _ hj
theorem SL.none_left {w : World} {p : Option Addr} : SL w p 0 [] := ⟨Nat.le_refl _, by decide, .inl rfl⟩
def bl (l : List ByteArray) : List (List UInt8) := l.map (·.data.toList)
theorem bl_length (l : List ByteArray) : (bl l).length = l.length := by simp [bl]
theorem bl_take (l : List ByteArray) (n : Nat) : bl (l.take n) = (bl l).take n := by simp [bl]
theorem bl_drop (l : List ByteArray) (n : Nat) : bl (l.drop n) = (bl l).drop n := by simp [bl]
end Go.Proofs.YthieinfonomeeaaGreatDoor
namespace Go.Proofs.YthieinfonomeeaaGreatDoor
open Go.RowKit Doc
set_option linter.unusedVariables false
def tcs (l : List ByteArray) : List Value := l.map Value.string
def txS : Shp (List ByteArray) where
 len := List.length
 app := fun a b => a ++ b
 sz := 1
 enc := fun _ _ l xs => xs = tcs l
 nil := []
 enc_nil := fun _ _ => rfl
 len_nil := rfl
 nil_of := fun L h => List.length_eq_zero_iff.1 h
 on := fun _ h => h
 join := fun h k => by rw [h, k]; simp [tcs]
 length := fun h => by rw [h]; simp [tcs]
 ones := fun h u hu => by
  rw [h] at hu
  obtain ⟨s, _, rfl⟩ := List.mem_map.1 hu
  rfl
 len_app := fun a b => List.length_append
theorem tyT : Typ Tryz.prog 34 9 1 16 := Typ.mk' (z := .string ByteArray.empty) Tryz.underlying34 (by kernel_rfl) rfl (by decide)
theorem src_tx {q : Nat → Prop} {w : World} {s : ByteArray} {ty : TypeId} : txS.src q (w.alloc (.cells #[.string s] ty)) (.slice (some ⟨w.heap.size, 0, none⟩) 1 1) [s] := ⟨_, Src.new w ty _ 1 1, rfl⟩
theorem SL.of_sl {q : Nat → Prop} {w : World} {p : Option Addr} {c : Nat} {l : List ByteArray} (h : txS.sl q w (.slice p l.length c) l) : SL w p c l := by
 obtain ⟨p', c', h1, h2, h3, h4, h5⟩ := h
 injection h1 with e1 e2 e3
 subst e1 e3
 refine ⟨h2, h3, ?_⟩
 rcases h5 with h5 | ⟨b, o, ys, rfl, hq, hl, hA, hE⟩
 ·exact .inl (List.length_eq_zero_iff.1 h5)
 ·refine .inr ⟨b, o, rfl, hl, fun j x hj => hA j _ ?_⟩
  rw [hE]
  simp [tcs, hj]
abbrev Bt := ByteArray × ByteArray
def ics : List Bt → List Value
 | [] => []
 | (a, b) :: r => .string a :: .string b :: ics r
theorem ics_app : ∀ a b : List Bt, ics (a ++ b) = ics a ++ ics b
 | [], b => rfl
 | (x, y) :: r, b => by simp [ics, ics_app r b]
theorem ics_len : ∀ a : List Bt, (ics a).length = a.length * 2
 | [] => rfl
 | (x, y) :: r => by simp [ics, ics_len r]; omega
theorem ics_one : ∀ a : List Bt, ∀ u ∈ ics a, u.oneCell' = true
 | [], u, h => by cases h
 | (x, y) :: r, u, h => by
   rcases List.mem_cons.1 h with rfl | h
   ·rfl
   ·rcases List.mem_cons.1 h with rfl | h
    ·rfl
    ·exact ics_one r u h
theorem ics_at : ∀ (l : List Bt) (j : Nat) (x : Bt), l[j]? = some x → (ics l)[j * 2]? = some (.string x.1) ∧ (ics l)[j * 2 + 1]? = some (.string x.2)
 | [], j, x, h => by simp at h
 | (a, b) :: r, 0, x, h => by
   have : (a, b) = x := by simpa using h
   subst this
   exact ⟨rfl, rfl⟩
 | (a, b) :: r, j + 1, x, h => by
   have ih := ics_at r j x (by simpa using h)
   rw [show (j + 1) * 2 = j * 2 + 2 by omega]
   exact ih
def itS : Shp (List Bt) where
 len := List.length
 app := fun a b => a ++ b
 sz := 2
 enc := fun _ _ l xs => xs = ics l
 nil := []
 enc_nil := fun _ _ => rfl
 len_nil := rfl
 nil_of := fun L h => List.length_eq_zero_iff.1 h
 on := fun _ h => h
 join := fun h k => by rw [h, k, ics_app]
 length := fun h => by rw [h, ics_len]
 ones := fun h u hu => by rw [h] at hu; exact ics_one _ u hu
 len_app := fun a b => List.length_append
theorem tyIt : Typ Tryz.prog 99 127 2 32 := Typ.mk' (z := .agg #[.string ByteArray.empty, .string ByteArray.empty]) Tryz.underlying99 (by kernel_rfl) rfl (by decide)
theorem src_it {q : Nat → Prop} {w : World} {a b : ByteArray} {ty : TypeId} : itS.src q (w.alloc (.cells #[.string a, .string b] ty)) (.slice (some ⟨w.heap.size, 0, none⟩) 1 1) [(a, b)] := ⟨_, Src.new w ty _ 1 1, rfl⟩
def IL (w : World) (p : Option Addr) (c : Nat) (l : List Bt) : Prop :=
 l.length ≤ c ∧ c ≤ 9223372036854775807 ∧ (l = [] ∨ ∃ b o, p = some ⟨b, o, none⟩ ∧ b < w.heap.size ∧ ∀ j x, l[j]? = some x → w.cell? ⟨b, o + j * 2, none⟩ = some (.string x.1) ∧ w.cell? ⟨b, o + j * 2 + 1, none⟩ = some (.string x.2))
theorem IL.of_sl {q : Nat → Prop} {w : World} {p : Option Addr} {c : Nat} {l : List Bt} (h : itS.sl q w (.slice p l.length c) l) : IL w p c l := by
 obtain ⟨p', c', h1, h2, h3, h4, h5⟩ := h
 injection h1 with e1 e2 e3
 subst e1 e3
 refine ⟨h2, h3, ?_⟩
 rcases h5 with h5 | ⟨b, o, ys, rfl, hq, hl, hA, hE⟩
 ·exact .inl (List.length_eq_zero_iff.1 h5)
 ·refine .inr ⟨b, o, rfl, hl, fun j x hj => ?_⟩
  have h6 : ys = ics l := hE
  obtain ⟨h7, h8⟩ := ics_at l j x hj
  rw [← h6] at h7 h8
  exact ⟨hA _ _ h7, by rw [Nat.add_assoc]; exact hA _ _ h8⟩
theorem IL.below {w w' : World} {p : Option Addr} {c : Nat} {l : List Bt} (h : IL w p c l) (hb : Below w.heap.size w w') : IL w' p c l := by
 obtain ⟨h1, h2, h3⟩ := h
 refine ⟨h1, h2, ?_⟩
 rcases h3 with h3 | ⟨b, o, rfl, hl, h4⟩
 ·exact .inl h3
 ·exact .inr ⟨b, o, rfl, Nat.lt_of_lt_of_le hl hb.size, fun j x hj => ⟨(hb.cell (p := ⟨b, o + j * 2, none⟩) hl).trans (h4 j x hj).1, (hb.cell (p := ⟨b, o + j * 2 + 1, none⟩) hl).trans (h4 j x hj).2⟩⟩
theorem IL.head {w : World} {p : Option Addr} {c : Nat} {x : Bt} {l : List Bt} (h : IL w p c (x :: l)) :
  ∃ b o, p = some ⟨b, o, none⟩ ∧ b < w.heap.size ∧ ∀ j y, (x :: l)[j]? = some y → w.cell? ⟨b, o + j * 2, none⟩ = some (.string y.1) ∧ w.cell? ⟨b, o + j * 2 + 1, none⟩ = some (.string y.2) := by
 rcases h.2.2 with h | h
 ·cases h
 ·exact h
theorem IL.take {w : World} {p : Option Addr} {c : Nat} {l : List Bt} (h : IL w p c l) (n : Nat) (hn : n ≤ l.length) : IL w p c (l.take n) := by
 obtain ⟨h1, h2, h3⟩ := h
 refine ⟨by rw [List.length_take]; omega, h2, ?_⟩
 rcases h3 with rfl | ⟨b, o, rfl, hl, h4⟩
 ·exact .inl (by simp)
 ·refine .inr ⟨b, o, rfl, hl, fun j x hj => h4 j x ?_⟩
  rw [List.getElem?_take] at hj
  split at hj
  ·exact hj
  ·cases hj
theorem IL.drop {w : World} {b o c : Nat} {l : List Bt} (h : IL w (some ⟨b, o, none⟩) c l) (hb : b < w.heap.size) (hc : ∀ j y, l[j]? = some y → w.cell? ⟨b, o + j * 2, none⟩ = some (.string y.1) ∧ w.cell? ⟨b, o + j * 2 + 1, none⟩ = some (.string y.2)) (n : Nat) (hn : n ≤ l.length) :
  IL w (some ⟨b, o + n * 2, none⟩) (c - n) (l.drop n) := by
 obtain ⟨h1, h2, -⟩ := h
 refine ⟨by rw [List.length_drop]; omega, by omega, .inr ⟨b, o + n * 2, rfl, hb, fun j x hj => ?_⟩⟩
 rw [List.getElem?_drop] at hj
 have h5 := hc _ _ hj
 rw [show o + (n + j) * 2 = o + n * 2 + j * 2 by omega] at h5
 exact h5
theorem IL.nothing {w : World} {p : Option Addr} {c : Nat} (hc : c ≤ 9223372036854775807) : IL w p c [] := ⟨Nat.zero_le _, hc, .inl rfl⟩
theorem blk_ready {B : Nat} {wr W : World} {v : Value} {L : Bls} {a l : Int} {t : ByteArray} {iv kv : Value} {i : Ins} {k : Bls} (hO : blsS.own 44 (fun _ => False) B wr v L) (hB : B ≤ wr.heap.size) (hb : Below wr.heap.size wr W)
  (hi : insS.sl (fun k => wr.heap.size ≤ k) W iv i) (hk : blsS.sl (fun k => wr.heap.size ≤ k) W kv k) :
  blsS.own 44 (fun _ => False) B (W.alloc (.cells #[.int .i64 a, .int .i64 l, .string t, iv, kv] 44)) v L ∧
  blsS.src (Shp.kind (fun _ => False) B v) (W.alloc (.cells #[.int .i64 a, .int .i64 l, .string t, iv, kv] 44)) (.slice (some ⟨W.heap.size, 0, none⟩) 1 1) (.cons a l t i k .nil) ∧
  B ≤ (W.alloc (.cells #[.int .i64 a, .int .i64 l, .string t, iv, kv] 44)).heap.size ∧ Below wr.heap.size wr (W.alloc (.cells #[.int .i64 a, .int .i64 l, .string t, iv, kv] 44)) := by
 have hz := hb.size
 have hkd : Kept (fun k => wr.heap.size ≤ k) (Shp.kind (fun _ => False) B v) W W := Kept.mono fun j hj _ => ⟨.inr (by omega), fun e => by have := (hO.lt j e).2; omega⟩
 refine ⟨(hO.below hb).below (below_new0 W _), src_bls (insS.sl_on hi hkd) (blsS.sl_on hk hkd), by rw [World.size_alloc]; omega, below_then hb (below_new0 W _)⟩
end Go.Proofs.YthieinfonomeeaaGreatDoor
