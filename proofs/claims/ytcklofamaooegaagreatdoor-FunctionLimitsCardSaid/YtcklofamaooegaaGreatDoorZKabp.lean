/-
  The claim's own texts, packed. Conditions: those typed in each theorem.
-/
import Derived.Test.YtcklofamaooegaaGreatDoorZKaax
import Derived.Test.YtcklofamaooegaaGreatDoorZKabh
import Derived.Lib.Strings
import Derived.Lib.Index
import Derived.Lib.IndexBytes
import Derived.Lib.OthersKept
import Derived.WalkSmall
import Derived.Laws.MakeOwn
import Derived.Test.YtcklofamaooegaaGreatDoorShelf
import Derived.Lib.RuneCount
import Derived.BigRegion
import Derived.Lib.IndexMore
set_option maxHeartbeats 4000000
set_option maxRecDepth 10000
set_option linter.unusedVariables false
namespace Go.Proofs.YtcklofamaooegaaGreatDoor
open Go.RowKit
theorem bytes_ext {a b : ByteArray} (h : a.data.toList = b.data.toList) : a = b := ByteArray.ext (Array.toList_inj.1 h)
theorem app_data (a b : ByteArray) : (a ++ b).data.toList = a.data.toList ++ b.data.toList := by simp
theorem hp_le {s p : List UInt8} (h : Lib.hasPrefix s p = true) : p.length ≤ s.length := by
 rw [← Lib.hasPrefix_of_take, Bool.and_eq_true] at h
 exact of_decide_eq_true h.1
theorem isEmpty_cons {s : ByteArray} {c : UInt8} {r : List UInt8} (h : s.data.toList = c :: r) : s.toList.isEmpty = false := by rw [Lib.toList_data, h]; rfl
theorem one_data (s : ByteArray) (i : Nat) (h : i < s.size) : (s.extract i (i + 1)).data.toList = [s[i]] := by
 obtain ⟨h1, h2⟩ := byte_at s i h
 rw [Lib.extract_data, h2, show i + 1 - i = 1 by omega, List.take_one, List.head?_drop, List.getElem?_eq_getElem h1]
 rfl
theorem drop_byte (s : ByteArray) (i : Nat) (h : i < s.size) : s.data.toList.drop i = s[i] :: s.data.toList.drop (i + 1) := by
 obtain ⟨h1, h2⟩ := byte_at s i h
 rw [List.drop_eq_getElem_cons h1, h2]
def SL (w : World) (p : Option Addr) (c : Nat) (l : List ByteArray) : Prop :=
 l.length ≤ c ∧ c ≤ 9223372036854775807 ∧ (l = [] ∨ ∃ b o, p = some ⟨b, o, none⟩ ∧ b < w.heap.size ∧ ∀ j x, l[j]? = some x → w.cell? ⟨b, o + j, none⟩ = some (.string x))
theorem SL.below {w w' : World} {p : Option Addr} {c : Nat} {l : List ByteArray} (h : SL w p c l) (hb : Below w.heap.size w w') : SL w' p c l := by
 obtain ⟨h1, h2, h3⟩ := h
 refine ⟨h1, h2, ?_⟩
 rcases h3 with h3 | ⟨b, o, rfl, hl, h4⟩
 ·exact .inl h3
 ·exact .inr ⟨b, o, rfl, Nat.lt_of_lt_of_le hl hb.size, fun j x hj => (hb.cell (p := ⟨b, o + j, none⟩) hl).trans (h4 j x hj)⟩
theorem SL.head {w : World} {p : Option Addr} {c : Nat} {x : ByteArray} {l : List ByteArray} (h : SL w p c (x :: l)) :
  ∃ b o, p = some ⟨b, o, none⟩ ∧ b < w.heap.size ∧ ∀ j y, (x :: l)[j]? = some y → w.cell? ⟨b, o + j, none⟩ = some (.string y) := by
 rcases h.2.2 with h | h
 ·cases h
 ·exact h
theorem SL.take {w : World} {p : Option Addr} {c : Nat} {l : List ByteArray} (h : SL w p c l) (n : Nat) (hn : n ≤ l.length) : SL w p c (l.take n) := by
 obtain ⟨h1, h2, h3⟩ := h
 refine ⟨by rw [List.length_take]; omega, h2, ?_⟩
 rcases h3 with rfl | ⟨b, o, rfl, hl, h4⟩
 ·exact .inl (by simp)
 ·refine .inr ⟨b, o, rfl, hl, fun j x hj => h4 j x ?_⟩
  rw [List.getElem?_take] at hj
  split at hj
  ·exact hj
  ·cases hj
theorem SL.drop {w : World} {b o c : Nat} {l : List ByteArray} (h : SL w (some ⟨b, o, none⟩) c l) (hb : b < w.heap.size) (hc : ∀ j x, l[j]? = some x → w.cell? ⟨b, o + j, none⟩ = some (.string x)) (n : Nat) (hn : n ≤ l.length) :
  SL w (some ⟨b, o + n, none⟩) (c - n) (l.drop n) := by
 obtain ⟨h1, h2, -⟩ := h
 refine ⟨by rw [List.length_drop]; omega, by omega, .inr ⟨b, o + n, rfl, hb, fun j x hj => ?_⟩⟩
 rw [List.getElem?_drop] at hj
 rw [Nat.add_assoc]
 exact hc _ _ hj
theorem SL.none_left {w : World} {p : Option Addr} : SL w p 0 [] := ⟨Nat.le_refl _, by decide, .inl rfl⟩
def tcs (l : List ByteArray) : List Value := l.map Value.string
def txS : Shp (List ByteArray) where
 len := List.length
 app := fun a b => a ++ b
 sz := 1
 enc := fun _ _ l xs => xs = tcs l
 nil := []
 enc_nil := fun _ _ => rfl
 len_nil := rfl
 nil_of := fun L h => List.length_eq_zero_iff.1 h
 on := fun _ h => h
 join := fun h k => by rw [h, k]; simp [tcs]
 length := fun h => by rw [h]; simp [tcs]
 ones := fun h u hu => by
  rw [h] at hu
  obtain ⟨s, _, rfl⟩ := List.mem_map.1 hu
  rfl
 len_app := fun a b => List.length_append
theorem tyT : Typ Tryz.prog 22 9 1 16 := Typ.mk' (z := .string ByteArray.empty) Tryz.underlying22 (by kernel_rfl) rfl (by decide)
theorem src_tx {q : Nat → Prop} {w : World} {s : ByteArray} {ty : TypeId} : txS.src q (w.alloc (.cells #[.string s] ty)) (.slice (some ⟨w.heap.size, 0, none⟩) 1 1) [s] := ⟨_, Src.new w ty _ 1 1, rfl⟩
theorem SL.of_sl {q : Nat → Prop} {w : World} {p : Option Addr} {c : Nat} {l : List ByteArray} (h : txS.sl q w (.slice p l.length c) l) : SL w p c l := by
 obtain ⟨p', c', h1, h2, h3, h4, h5⟩ := h
 injection h1 with e1 e2 e3
 subst e1 e3
 refine ⟨h2, h3, ?_⟩
 rcases h5 with h5 | ⟨b, o, ys, rfl, hq, hl, hA, hE⟩
 ·exact .inl (List.length_eq_zero_iff.1 h5)
 ·refine .inr ⟨b, o, rfl, hl, fun j x hj => hA j _ ?_⟩
  rw [hE]
  simp [tcs, hj]
end Go.Proofs.YtcklofamaooegaaGreatDoor
namespace Go.Proofs.YtcklofamaooegaaGreatDoor
open Go.RowKit
attribute [local go_sem ↓] Go.wp_at_zero Go.wp_at_succ
def ncs (l : List Nat) : List Value := l.map fun n : Nat => Value.int .i64 (n : Int)
def nS : Shp (List Nat) where
 len := List.length
 app := fun a b => a ++ b
 sz := 1
 enc := fun _ _ l xs => xs = ncs l
 nil := []
 enc_nil := fun _ _ => rfl
 len_nil := rfl
 nil_of := fun L h => List.length_eq_zero_iff.1 h
 on := fun _ h => h
 join := fun h k => by rw [h, k]; simp [ncs]
 length := fun h => by rw [h]; simp [ncs]
 ones := fun h u hu => by
  rw [h] at hu
  obtain ⟨s, _, rfl⟩ := List.mem_map.1 hu
  rfl
 len_app := fun a b => List.length_append
theorem tyN : Typ Tryz.prog 32 3 1 8 := Typ.mk' (z := .int .i64 0) Tryz.underlying32 (by kernel_rfl) rfl (by decide)
theorem src_n {q : Nat → Prop} {w : World} {n : Nat} {ty : TypeId} : nS.src q (w.alloc (.cells #[.int .i64 (n : Int)] ty)) (.slice (some ⟨w.heap.size, 0, none⟩) 1 1) [n] := ⟨_, Src.new w ty _ 1 1, rfl⟩
def NSL (w : World) (p : Option Addr) (c : Nat) (l : List Nat) : Prop :=
 l.length ≤ c ∧ c ≤ 9223372036854775807 ∧ (l = [] ∨ ∃ b o, p = some ⟨b, o, none⟩ ∧ b < w.heap.size ∧ ∀ (j : Nat) (x : Nat), l[j]? = some x → w.cell? ⟨b, o + j, none⟩ = some (.int .i64 (x : Int)))
theorem NSL.of_sl {q : Nat → Prop} {w : World} {p : Option Addr} {c : Nat} {l : List Nat} (h : nS.sl q w (.slice p l.length c) l) : NSL w p c l := by
 obtain ⟨p', c', h1, h2, h3, h4, h5⟩ := h
 injection h1 with e1 e2 e3
 subst e1 e3
 refine ⟨h2, h3, ?_⟩
 rcases h5 with h5 | ⟨b, o, ys, rfl, hq, hl, hA, hE⟩
 ·exact .inl (List.length_eq_zero_iff.1 h5)
 ·refine .inr ⟨b, o, rfl, hl, fun j x hj => hA j _ ?_⟩
  rw [hE]
  simp [ncs, hj]
theorem NSL.below {w w' : World} {p : Option Addr} {c : Nat} {l : List Nat} (h : NSL w p c l) (hb : Below w.heap.size w w') : NSL w' p c l := by
 obtain ⟨h1, h2, h3⟩ := h
 refine ⟨h1, h2, ?_⟩
 rcases h3 with h3 | ⟨b, o, rfl, hl, h4⟩
 ·exact .inl h3
 ·exact .inr ⟨b, o, rfl, Nat.lt_of_lt_of_le hl hb.size, fun j x hj => (hb.cell (p := ⟨b, o + j, none⟩) hl).trans (h4 j x hj)⟩
theorem NSL.all {w : World} {p : Option Addr} {c : Nat} {l : List Nat} (h : NSL w p c l) (h0 : 0 < l.length) : ∃ b o, p = some ⟨b, o, none⟩ ∧ b < w.heap.size ∧ ∀ (j : Nat) (x : Nat), l[j]? = some x → w.cell? ⟨b, o + j, none⟩ = some (.int .i64 (x : Int)) := by
 rcases h.2.2 with h | h
 ·rw [h] at h0; cases h0
 ·exact h
theorem width_pos (s : ByteArray) (pos : Nat) (h : pos < s.size) : 1 ≤ (Utf8.decode s pos).2 := by
 by_cases ha : (s[pos]'h).toNat < 128
 ·rw [decode_ascii s pos h ha]
  exact Nat.le_refl _
 ·exact (decode_high s pos h (by omega)).2
def rst (s : ByteArray) : Nat → Nat → List Nat
 | 0, _ => []
 | f + 1, pos => if pos < s.size then pos :: rst s f (pos + (Utf8.decode s pos).2) else []
theorem rst_end (s : ByteArray) (f pos : Nat) (h : ¬ pos < s.size) : rst s f pos = [] := by
 cases f with
 | zero => rfl
 | succ f => rw [rst, if_neg h]
theorem rst_step (s : ByteArray) (f pos : Nat) (h : pos < s.size) : rst s (f + 1) pos = pos :: rst s f (pos + (Utf8.decode s pos).2) := by rw [rst, if_pos h]
def stL (s : ByteArray) : List Nat := rst s s.size 0 ++ [s.size]
theorem rst_len (s : ByteArray) : ∀ (f pos : Nat), (rst s f pos).length ≤ s.size - pos
 | 0, pos => by simp [rst]
 | f + 1, pos => by
   by_cases h : pos < s.size
   ·have hw := width_pos s pos h
    rw [rst_step s f pos h, List.length_cons]
    have := rst_len s f (pos + (Utf8.decode s pos).2)
    omega
   ·rw [rst_end s _ pos h]; simp
theorem rst_le (s : ByteArray) : ∀ (f pos x : Nat), x ∈ rst s f pos → pos ≤ x ∧ x < s.size
 | 0, pos, x, h => by cases h
 | f + 1, pos, x, h => by
   by_cases hp : pos < s.size
   ·rw [rst_step s f pos hp] at h
    rcases List.mem_cons.1 h with rfl | h
    ·exact ⟨Nat.le_refl _, hp⟩
    ·have := rst_le s f _ x h
     omega
   ·rw [rst_end s _ pos hp] at h; cases h
theorem stL_len (s : ByteArray) : (stL s).length ≤ s.size + 1 := by
 unfold stL
 rw [List.length_append]
 have := rst_len s s.size 0
 simp; omega
theorem stL_le {s : ByteArray} {x : Nat} (h : x ∈ stL s) : x ≤ s.size := by
 rcases List.mem_append.1 h with h | h
 ·exact Nat.le_of_lt (rst_le s _ _ x h).2
 ·have : x = s.size := by simpa using h
  omega
theorem rst_sorted (s : ByteArray) : ∀ (f pos : Nat), (rst s f pos).Pairwise (· < ·)
 | 0, pos => List.Pairwise.nil
 | f + 1, pos => by
   by_cases h : pos < s.size
   ·have hw := width_pos s pos h
    rw [rst_step s f pos h, List.pairwise_cons]
    exact ⟨fun x hx => by have := (rst_le s f _ x hx).1; omega, rst_sorted s f _⟩
   ·rw [rst_end s _ pos h]; exact List.Pairwise.nil
theorem stL_sorted (s : ByteArray) : (stL s).Pairwise (· < ·) := by
 unfold stL
 rw [List.pairwise_append]
 exact ⟨rst_sorted s _ _, List.pairwise_singleton _ _, fun x hx y hy => by
  have : y = s.size := by simpa using hy
  have := (rst_le s _ _ x hx).2
  omega⟩
def occL (l t : List UInt8) : List Nat → Nat → List Nat
 | [], _ => []
 | p :: Q, e => if e ≤ p ∧ Lib.hasPrefix (l.drop p) t = true then p :: occL l t Q (p + t.length) else occL l t Q e
def divL (l t : List UInt8) : List Nat → Nat → List (List UInt8)
 | [], f => [l.drop f]
 | o :: r, f => ((l.take o).drop f) :: divL l t r (o + t.length)
theorem occL_len (l t : List UInt8) : ∀ (Q : List Nat) (e : Nat), (occL l t Q e).length ≤ Q.length
 | [], _ => Nat.le_refl _
 | p :: Q, e => by
   rw [occL]
   split
   ·rw [List.length_cons, List.length_cons]; have := occL_len l t Q (p + t.length); omega
   ·rw [List.length_cons]; have := occL_len l t Q e; omega
theorem pre_le {l t : List UInt8} {p : Nat} (h : Lib.hasPrefix (l.drop p) t = true) (ht : 1 ≤ t.length) : p + t.length ≤ l.length := by
 have h1 := hp_le h
 rw [List.length_drop] at h1
 omega
theorem occ_pre (l t : List UInt8) (f j : Nat) : Lib.occAt (l.drop f) t j = Lib.hasPrefix (l.drop (f + j)) t := by
 unfold Lib.occAt Lib.hasPrefix
 rw [List.drop_drop]
def AllIn (l t : List UInt8) (Q : List Nat) (f : Nat) : Prop := ∀ p, f ≤ p → Lib.hasPrefix (l.drop p) t = true → p ∈ Q
theorem AllIn.next {l t : List UInt8} {q : Nat} {Q : List Nat} {f : Nat} (h : AllIn l t (q :: Q) f) (hq : f ≤ q) (ht : 1 ≤ t.length) : AllIn l t Q (q + t.length) := fun p h1 h2 => by
 rcases List.mem_cons.1 (h p (by omega) h2) with rfl | h3
 ·omega
 ·exact h3
theorem make_ints (w : World) (n : Nat) (hn : n ≤ 1000000000) : ∃ w', (Instr.makeSlice 32 (.int .i64 0) (.int .i64 (n : Int))).run Tryz.prog w = .ok (.slice (some ⟨w.heap.size, 0, none⟩) 0 n) w' ∧
  nS.own 3 (fun _ => False) w.heap.size w' (.slice (some ⟨w.heap.size, 0, none⟩) 0 n) [] ∧ Below w.heap.size w w' ∧ w.heap.size < w'.heap.size := by
 obtain ⟨i, z, hi, hz, hsize, hby, hzs⟩ := tyN.inf
 obtain ⟨w', h1, h2, h3⟩ := run_make_own (P := Tryz.prog) w w.heap.size 32 3 i z 1 Tryz.underlying32 hi hz hsize .i64 .i64 n (by rw [hby]; omega) (by unfold maxLen; omega) (Nat.le_refl _)
 exact ⟨w', h1, ⟨[], h2, rfl⟩, (Below.refl _ _).grown h3 (Nat.le_refl _) (fun g hg => by cases hg), (h2.lt _ rfl).2⟩
theorem own_iter2 {q : Nat → Prop} {B : Nat} {w : World} {v : Value} {l : List Nat} (h : nS.own 3 q B w v l) {k : Nat} (hk : v.ownBlock ≠ some k) (s : ByteArray) (p : Nat) : nS.own 3 q B (w.iterAt k s p) v l := by
 obtain ⟨xs, h1, h2⟩ := h
 exact ⟨xs, own_on h1 fun j hj => Lib.iterAt_other w k j s p (by rintro rfl; exact hk hj), h2⟩
theorem soffsets_any (s : ByteArray) (w : World) (hs : s.size ≤ 100000000) : Calls Tryz.prog 134 #[.string s] w fun e w' => ∃ p c, e = .returned (.slice p (stL s).length c) ∧ NSL w' p c (stL s) ∧ Below w.heap.size w w' := by
 obtain ⟨w1, hmk, hO, hbm, hz1⟩ := make_ints w (s.size + 1) (by omega)
 have hW : (w1.iter s 0).heap[w1.heap.size]? = some (.stringIter s 0) := World.iter_heap w1 s 0
 have hz2 : (w1.iter s 0).heap.size = w1.heap.size + 1 := by show (w1.alloc _).heap.size = _; rw [World.size_alloc]
 have hb1 : Below w.heap.size w (w1.iter s 0) := below_then hbm (below_new0 w1 _)
 have hO1 : nS.own 3 (fun _ => False) w.heap.size (w1.iter s 0) (.slice (some ⟨w.heap.size, 0, none⟩) 0 (s.size + 1)) [] := hO.below (below_new0 w1 _)
 have HO := Lib.hid hO1
 have HW := Lib.hid hW
 have HB1 := Lib.hid hb1
 clear hW hb1 hO hO1 hbm
 rw [show ((s.size + 1 : Nat) : Int) = (s.size : Int) + 1 by omega] at hmk
 obtain ⟨ib, hib⟩ : ∃ ib, ib = w1.heap.size := ⟨_, rfl⟩
 rw [← hib] at HW hz2 hz1
 have HIB := Lib.hid hib
 go_enter Tryz.func134, Tryz.ntmps134
 go_wp2_with fail
 rw [← HIB.out]
 clear hib hmk
 go_loopg [3] (s.size + 1) (fun g s3 wr => ∃ (pos f : Nat) (P : List Nat), wr.heap[ib]? = some (.stringIter s pos) ∧ nS.own 3 (fun _ => False) w.heap.size wr s3 P ∧ s3.ownBlock ≠ some ib ∧ P ++ rst s f pos = rst s s.size 0 ∧ s.size ≤ pos + f ∧ s.size < pos + g ∧ P.length ≤ pos ∧ P.length ≤ s.size ∧ ib + 1 ≤ wr.heap.size ∧ Below w.heap.size w wr)
 case atStart => exact ⟨0, s.size, [], HW.out, HO.out, (fun e => by have e : w.heap.size = ib := Option.some.inj e; omega), rfl, by omega, by omega, Nat.le_refl _, Nat.zero_le _, by rw [hz2]; exact Nat.le_refl _, HB1.out⟩
 case round =>
  obtain ⟨pos, f, P, hit, hown, hne, hP, hf, hg, hPl, hPs, hzw, hb⟩ := hrel
  have HP := Lib.hid hP
  have HB := Lib.hid hb
  have hlenP : nS.len P = P.length := rfl
  by_cases hp : pos < s.size
  ·have hnx := fun ty => Lib.run_next_any_at (P := Tryz.prog) wr ib s pos ty hit hp
   have hwd := width_pos s pos hp
   obtain ⟨f, rfl⟩ : ∃ k, f = k + 1 := ⟨f - 1, by omega⟩
   rw [rst_step s f pos hp] at hP
   generalize (Utf8.decode s pos).1 = rn at hnx
   generalize hwdd : (Utf8.decode s pos).2 = wd at hnx hwd hP
   have hit2 := Lib.iterAt_heap wr ib s pos (pos + wd) hit
   have hown2 := own_iter2 hown hne s (pos + wd)
   have hz2 := Lib.iterAt_size wr ib s (pos + wd)
   have hb2 := Lib.below_iterAt hb (show w.heap.size ≤ ib by omega) s (pos + wd)
   obtain ⟨W, hWW⟩ : ∃ W, wr.iterAt ib s (pos + wd) = W := ⟨_, rfl⟩
   simp only [hWW] at hnx
   rw [hWW] at hit2 hown2 hz2 hb2
   have hoA := hown2.below (below_new0 W (.cells #[.int .i64 (pos : Int)] 3))
   have HOA := Lib.hid hoA
   have HB2 := Lib.hid hb2
   have HIT2 := Lib.hid hit2
   have HNE := Lib.hid hne
   have hPn : (P ++ [pos]) ++ rst s f (pos + wd) = rst s s.size 0 := by rw [← hP]; simp
   have HPN := Lib.hid hPn
   have hPl2 : (P ++ [pos]).length ≤ s.size := by
    have h1 := rst_len s s.size 0
    rw [← hPn, List.length_append] at h1
    omega
   have HPL2 := Lib.hid hPl2
   have hzW : w.heap.size ≤ (W.alloc (.cells #[.int .i64 (pos : Int)] 3)).heap.size := by rw [World.size_alloc]; omega
   have HZ2 := Lib.hid hz2
   clear hit hown hP hoA hb2 hit2 hPn hWW hwdd hown2 hPl2 hb hz2 hne
   go_wp2_with (at_builtin; go_must (refine append_shp nS tyN _ rfl _ _ rfl HOA.out rfl (src_n (n := pos)) rfl (by rw [hlenP]; show (P.length + 1) * 9 ≤ _; omega) hzW ?_); intro v' w4 O4 hgrow hbel hkd)
   have hlt := HOA.out.lt
   have hbn : Below w.heap.size w w4 := (below_then HB2.out (below_new0 _ _)).grown hgrow hzW (fun k hk => (hlt k hk).1)
   have hkk := hkd ib ⟨.inr (by omega), HNE.out⟩ (by rw [World.size_alloc]; have := HZ2.out; omega)
   have hit4 : w4.heap[ib]? = some (.stringIter s (pos + wd)) := by
    rw [hkk.2, Below.heap_alloc W _ _ (by have := HZ2.out; omega)]
    exact HIT2.out
   have hne4 := hkk.1.2
   have hz4 : ib + 1 ≤ w4.heap.size := by have := hgrow.size; have := HZ2.out; rw [World.size_alloc] at *; omega
   clear hgrow hbel hkd hlt hkk
   go_roundg (s.size - pos)
   case measure => omega
   case rel => exact ⟨pos + wd, f, P ++ [pos], hit4, O4, hne4, HPN.out, by omega, by omega, by rw [List.length_append]; show P.length + 1 ≤ _; omega, HPL2.out, hz4, hbn⟩
  ·have hnx := fun ty => Lib.run_next_end_at (P := Tryz.prog) wr ib s pos ty hit hp
   rw [rst_end s f pos hp, List.append_nil] at hP
   have hst : P ++ [s.size] = stL s := by rw [hP]; rfl
   have HST := Lib.hid hst
   have hoA := hown.below (below_new0 wr (.cells #[.int .i64 (s.size : Int)] 3))
   have HOA := Lib.hid hoA
   have hzW : w.heap.size ≤ (wr.alloc (.cells #[.int .i64 (s.size : Int)] 3)).heap.size := by rw [World.size_alloc]; omega
   clear hP hst hown hoA hb hne
   go_wp2_with (at_builtin; go_must (refine append_shp nS tyN _ rfl _ _ rfl HOA.out rfl (src_n (n := s.size)) rfl (by rw [hlenP]; show (P.length + 1) * 9 ≤ _; omega) hzW ?_); intro v' w4 O4 hgrow hbel hkd)
   have hlt := HOA.out.lt
   have hbn : Below w.heap.size w w4 := (below_then HB.out (below_new0 _ _)).grown hgrow hzW (fun k hk => (hlt k hk).1)
   have O5 : nS.own 3 (fun _ => False) w.heap.size w4 v' (P ++ [s.size]) := O4
   obtain ⟨p', c', hvv⟩ := O5.form
   replace hvv : v' = .slice p' (P ++ [s.size]).length c' := hvv
   have h4 := O5.sl
   rw [hvv] at h4
   have h5 := NSL.of_sl h4
   subst hvv
   have H5 := Lib.hid h5
   clear hgrow hbel hkd O4 O5 h4 h5
   go_wp2_with fail
   go_ret
   exact ⟨p', c', by rw [← HST.out]; rfl, by rw [← HST.out]; exact H5.out, hbn⟩
def nR (s : ByteArray) : Nat := (rst s s.size 0).length
theorem stL_nR (s : ByteArray) : (stL s).length = nR s + 1 := by unfold stL nR; rw [List.length_append]; rfl
theorem nR_le (s : ByteArray) : nR s ≤ s.size := rst_len s s.size 0
theorem rst_count (s : ByteArray) : ∀ (f pos : Nat), Lib.runeCountFrom s f pos = (rst s f pos).length
 | 0, pos => rfl
 | f + 1, pos => by
   rw [Lib.runeCountFrom, rst]
   split
   ·rw [List.length_cons, rst_count s f]; omega
   ·rfl
theorem nR_count (s : ByteArray) : Lib.runeCount s = nR s := rst_count s _ _
theorem slength_any (s : ByteArray) (w : World) (hs : s.size ≤ 100000000) : Calls Tryz.prog 75 #[.string s] w fun e w' => e = .returned (.int .i64 (nR s : Nat)) ∧ Below w.heap.size w w' := by
 have hC := Tryz.utf8_RuneCountInString s w (by omega)
 rw [nR_count] at hC
 go_enter Tryz.func75, Tryz.ntmps75
 go_wp2_with fail
 refine hC.mono ?_
 rintro e w1 ⟨rfl, pos, hw1⟩
 have hb : Below w.heap.size w w1 := by rw [hw1]; exact below_new0 w _
 clear hw1
 go_wp2_with fail
 go_ret
 exact ⟨rfl, hb⟩
def slF (N : Nat) (a : Int) : Nat := (min (if a < 0 then max 0 (a + N) else a) N).toNat
def slT (N : Nat) (fr : Nat) (n : Int) : Nat := if 0 ≤ n then fr + (min n ((N : Int) - fr)).toNat else if (fr : Int) - N < n then ((N : Int) + n).toNat else fr
theorem slF_le (N : Nat) (a : Int) : slF N a ≤ N := by unfold slF; split <;> omega
theorem slT_le {N fr : Nat} {n : Int} (h : fr ≤ N) : fr ≤ slT N fr n ∧ slT N fr n ≤ N := by
 unfold slT
 split
 ·omega
 ·split <;> omega
def slcS (s : ByteArray) (a n : Int) : ByteArray := s.extract ((stL s).getD (slF (nR s) a) 0) ((stL s).getD (slT (nR s) (slF (nR s) a) n) 0)
theorem stL_at (s : ByteArray) (i : Nat) (h : i ≤ nR s) : (stL s)[i]? = some ((stL s).getD i 0) := by
 rw [List.getD_eq_getElem?_getD]
 rw [List.getElem?_eq_getElem (by rw [stL_nR]; omega)]
 rfl
theorem stL_mono (s : ByteArray) {i j : Nat} (h : i ≤ j) (hj : j ≤ nR s) : (stL s).getD i 0 ≤ (stL s).getD j 0 := by
 rcases Nat.lt_or_ge i j with h1 | h1
 ·have hp := List.pairwise_iff_getElem.1 (stL_sorted s) i j (by rw [stL_nR]; omega) (by rw [stL_nR]; omega) h1
  rw [List.getD_eq_getElem?_getD, List.getD_eq_getElem?_getD, List.getElem?_eq_getElem (by rw [stL_nR]; omega), List.getElem?_eq_getElem (by rw [stL_nR]; omega)]
  exact Nat.le_of_lt hp
 ·have : i = j := by omega
  rw [this]; exact Nat.le_refl _
theorem stL_size (s : ByteArray) {i : Nat} (h : i ≤ nR s) : (stL s).getD i 0 ≤ s.size := stL_le (List.mem_of_getElem? (stL_at s i h))
theorem sslice_any (s : ByteArray) (a n : Int) (w : World) (hs : s.size ≤ 100000000) (ha : -9223372036854775808 ≤ a ∧ a ≤ 9223372036854775807) (hn : -9223372036854775808 ≤ n ∧ n ≤ 9223372036854775807) :
  Calls Tryz.prog 76 #[.string s, .int .i64 a, .int .i64 n] w fun e w' => e = .returned (.string (slcS s a n)) ∧ Below w.heap.size w w' := by
 have hO := soffsets_any s w hs
 rw [stL_nR] at hO
 have hle := nR_le s
 have hat := stL_at s
 have hfl := slF_le (nR s) a
 have htl := slT_le (n := n) hfl
 have hm := stL_mono s htl.1 htl.2
 have hsz := stL_size s htl.2
 have e0 := hat _ hfl
 have e1 := hat _ htl.2
 have hF : slF (nR s) a = (min (if a < 0 then max 0 (a + nR s) else a) (nR s)).toNat := rfl
 have hT : slT (nR s) (slF (nR s) a) n = if 0 ≤ n then slF (nR s) a + (min n ((nR s : Int) - slF (nR s) a)).toNat else if (slF (nR s) a : Int) - nR s < n then ((nR s : Int) + n).toNat else slF (nR s) a := rfl
 unfold slcS
 obtain ⟨N, hN⟩ : ∃ N, N = nR s := ⟨_, rfl⟩
 rw [← hN] at hO hle hfl htl hm hsz e0 e1 hF hT ⊢
 obtain ⟨fr, hfr⟩ : ∃ fr, fr = slF N a := ⟨_, rfl⟩
 rw [← hfr] at hfl htl hm hsz e0 e1 hF hT ⊢
 obtain ⟨te, hte⟩ : ∃ te, te = slT N fr n := ⟨_, rfl⟩
 rw [← hte] at htl hm hsz e1 hT ⊢
 obtain ⟨x, hx⟩ : ∃ x, x = (stL s).getD fr 0 := ⟨_, rfl⟩
 obtain ⟨y, hy⟩ : ∃ y, y = (stL s).getD te 0 := ⟨_, rfl⟩
 rw [← hx] at hm e0 ⊢
 rw [← hy] at hm hsz e1 ⊢
 have HF := Lib.hid hF
 have HT := Lib.hid hT
 have HE0 := Lib.hid e0
 have HE1 := Lib.hid e1
 have HNN := Lib.hid (stL_nR s)
 have hN2 : Hid (N = nR s) := Lib.hid hN
 clear hat hF hT hN hfr hte hx hy e0 e1
 go_enter Tryz.func76, Tryz.ntmps76
 go_wp2_with fail
 refine hO.mono ?_
 rintro e w1 ⟨p, c, rfl, hNS, hb⟩
 obtain ⟨b, o, rfl, hbl, hcc⟩ := hNS.all (by rw [HNN.out]; omega)
 have c0 := hcc _ _ HE0.out
 have c1 := hcc _ _ HE1.out
 have hcap := hNS.1
 rw [HNN.out, ← hN2.out] at hcap
 have hbW := hb
 have HB := Lib.hid hbW
 clear hNS hcc hO hb hbW
 have hbl2 : b < w1.heap.size := hbl
 obtain ⟨a1, ha1⟩ : ∃ a1 : Int, a1 = if a < 0 then max 0 (a + N) else a := ⟨_, rfl⟩
 have HA1 := Lib.hid ha1
 clear ha1
 obtain ⟨bx, hbx⟩ : ∃ bx, decide (a < 0) = bx := ⟨_, rfl⟩
 go_upto_if 16 with fail
 go_cut [1] from 17 to 20 (fun s1 wc => s1 = .int .i64 a1 ∧ w1 = wc)
 case first =>
  cases bx with
  | true =>
    have h1 : a < 0 := of_decide_eq_true hbx
    have hf := HA1.out
    rw [if_pos h1] at hf
    go_wp2_with fail
    go_meet
    case rel => exact ⟨by first | rfl | (rw [hf]) | (congr 1; omega), rfl⟩
  | false =>
    have h1 : ¬ a < 0 := of_decide_eq_false hbx
    have hf := HA1.out
    rw [if_neg h1] at hf
    go_wp2_with fail
    go_meet
    case rel => exact ⟨by first | rfl | (rw [hf]) | (congr 1; omega), rfl⟩
 case rest =>
  obtain ⟨rfl, rfl⟩ := hcut
  have e2 : min a1 (N : Int) = (fr : Int) := by
   have h1 := HF.out
   rw [← HA1.out] at h1
   have hp : 0 ≤ a1 := by rw [HA1.out]; split <;> omega
   omega
  clear hbx
  obtain ⟨by0, hby⟩ : ∃ by0, decide (0 ≤ n) = by0 := ⟨_, rfl⟩
  go_upto_if 26 with fail
  go_cut [9] from 27 to 42 (fun s9 wc => s9 = .int .i64 (te : Nat) ∧ w1 = wc)
  case first =>
   have ht := HT.out
   cases by0 with
   | true =>
     have h0 : 0 ≤ n := of_decide_eq_true hby
     rw [if_pos h0] at ht
     have e3 : (fr : Int) + min n ((N : Int) - (fr : Int)) = (te : Int) := by omega
     go_wp2_with fail
     go_meet
     case rel => exact ⟨by first | rfl | (congr 1; omega), rfl⟩
   | false =>
     have h0 : ¬ 0 ≤ n := of_decide_eq_false hby
     rw [if_neg h0] at ht
     by_cases h3 : (fr : Int) - N < n
     ·have g3 : decide ((fr : Int) - (N : Int) < n) = true := decide_eq_true h3
      rw [if_pos h3] at ht
      go_wp2_with fail
      go_meet
      case rel => exact ⟨by first | rfl | (congr 1; omega), rfl⟩
     ·have g3 : decide ((fr : Int) - (N : Int) < n) = false := decide_eq_false h3
      rw [if_neg h3] at ht
      go_wp2_with fail
      go_meet
      case rel => exact ⟨by first | rfl | (congr 1; omega), rfl⟩
  case rest =>
   obtain ⟨rfl, rfl⟩ := hcut
   have i0 : (0 : Int) ≤ (fr : Int) := by omega
   have i1 : (fr : Int) < (N : Int) + 1 := by omega
   have i2 : (0 : Int) ≤ (te : Int) := by omega
   have i3 : (te : Int) < (N : Int) + 1 := by omega
   go_wp2_with fail
   refine wp_region_gr (by kernel_rfl) (by kernel_rfl) ?_
   repeat (go_big_quiet_step (fail))
   with_reducible refine wpQuiet_nil ?_
   intro _ hw'; obtain ⟨w6, hw''⟩ := hw'; subst hw''
   have B6 := gr_below w1 w6
   go_wp2_with fail
   go_ret
   exact ⟨rfl, below_then HB.out B6⟩
def fndL (l t : List UInt8) : List Nat → Option Nat
 | [] => none
 | q :: Q => if Lib.hasPrefix (l.drop q) t then some 0 else (fndL l t Q).map (· + 1)
def fndN (s t : ByteArray) (i : Nat) : Int := match fndL s.data.toList t.data.toList ((stL s).drop i) with | some k => ((i + k : Nat) : Int) | none => -1
theorem fndN_past {s t : ByteArray} {i : Nat} (h : (stL s).length ≤ i) : fndN s t i = -1 := by
 unfold fndN; rw [List.drop_of_length_le h]; rfl
theorem fndN_hit {s t : ByteArray} {i x : Nat} (h : (stL s)[i]? = some x) (hp : Lib.hasPrefix (s.data.toList.drop x) t.data.toList = true) : fndN s t i = (i : Int) := by
 have hl := (List.getElem?_eq_some_iff.1 h)
 obtain ⟨hl, e⟩ := hl
 unfold fndN
 rw [List.drop_eq_getElem_cons hl, e, fndL, if_pos hp]
 simp
theorem fndN_miss {s t : ByteArray} {i x : Nat} (h : (stL s)[i]? = some x) (hp : Lib.hasPrefix (s.data.toList.drop x) t.data.toList = false) : fndN s t i = fndN s t (i + 1) := by
 obtain ⟨hl, e⟩ := List.getElem?_eq_some_iff.1 h
 unfold fndN
 rw [List.drop_eq_getElem_cons hl, e, fndL, if_neg (by rw [hp]; decide)]
 cases fndL s.data.toList t.data.toList ((stL s).drop (i + 1)) with
 | none => rfl
 | some k => simp only [Option.map_some]; omega
def MX (w : World) : Prop := ∃ m : Int, w.cell? ⟨3, 0, none⟩ = some (.int .i64 m)
theorem MX.below {w w' : World} (h : MX w) (hb : Below w.heap.size w w') : MX w' := by
 obtain ⟨m, hm⟩ := h
 exact ⟨m, (hb.cell (p := ⟨3, 0, none⟩) (World.block_lt_of_cell? w ⟨3, 0, none⟩ hm)).trans hm⟩
theorem fndN_skip {s t : ByteArray} : ∀ (d i : Nat), (∀ m q, i ≤ m → m < i + d → (stL s)[m]? = some q → Lib.hasPrefix (s.data.toList.drop q) t.data.toList = false) → i + d ≤ (stL s).length → fndN s t i = fndN s t (i + d)
 | 0, i, _, _ => rfl
 | d + 1, i, h, hl => by
   obtain ⟨x, hx⟩ : ∃ x, (stL s)[i]? = some x := ⟨_, List.getElem?_eq_getElem (by omega)⟩
   rw [fndN_miss hx (h i x (Nat.le_refl _) (by omega) hx), fndN_skip d (i + 1) (fun m q h1 h2 h3 => h m q (by omega) (by omega) h3) (by omega), show i + (d + 1) = i + 1 + d by omega]
theorem stL_lt {s : ByteArray} {i j x y : Nat} (hij : i < j) (hx : (stL s)[i]? = some x) (hy : (stL s)[j]? = some y) : x < y := by
 obtain ⟨h1, e1⟩ := List.getElem?_eq_some_iff.1 hx
 obtain ⟨h2, e2⟩ := List.getElem?_eq_some_iff.1 hy
 have := List.pairwise_iff_getElem.1 (stL_sorted s) i j h1 h2 hij
 omega
theorem stL_last (s : ByteArray) : (stL s)[nR s]? = some s.size := by
 unfold stL nR
 rw [List.getElem?_append_right (Nat.le_refl _), Nat.sub_self]; rfl
theorem socc_any (s t : ByteArray) (p : Option Addr) (c i0 : Nat) (w : World) (hs : s.size ≤ 100000000) (ht : t.size ≤ 100000000) (hi0 : i0 ≤ 9223372036854775807) (hm : MX w) (hv : NSL w p c (stL s)) :
  Calls Tryz.prog 135 #[.string s, .string t, .slice p (stL s).length c, .int .i64 i0] w fun e w' => e = .returned (.int .i64 (fndN s t i0)) ∧ w = w' := by
 obtain ⟨ml, hml⟩ := hm
 have hIX := fun X hX => (Tryz.strings_Index X t ml w hX hml).mono fun e w' h => (⟨h.1, h.2.symm⟩ : _ ∧ w = w')
 have hsp := fun x => Lib.index_spec (s.data.toList.drop x) t.data.toList
 have hnR := stL_nR s
 have hle := nR_le s
 have hlast := stL_last s
 have hcap := hv.1
 obtain ⟨n, hn⟩ : ∃ n, n = (stL s).length := ⟨_, rfl⟩
 rw [← hn] at hnR hcap ⊢
 have hn1 : n ≤ 100000001 := by omega
 have HN := Lib.hid hn
 have HNS := Lib.hid hv
 have HIX := Lib.hid hIX
 have HSP := Lib.hid hsp
 have HLAST := Lib.hid hlast
 have HNR := Lib.hid hnR
 clear hIX hsp hn hv hlast hnR hle hml
 go_enter Tryz.func135, Tryz.ntmps135
 go_wp2_with fail
 go_loopg [3] (n + 1) (fun g s3 wr => ∃ i : Nat, s3 = .int .i64 i ∧ fndN s t i = fndN s t i0 ∧ n < i + g ∧ i ≤ 9223372036854775807 ∧ w = wr)
 case atStart => exact ⟨i0, rfl, rfl, by omega, hi0, rfl⟩
 case round =>
  obtain ⟨i, rfl, hf, hg, hi1, rfl⟩ := hrel
  have HF := Lib.hid hf
  clear hf
  by_cases hin : i < n
  ·have g1 : decide (i < n) = true := decide_eq_true hin
   obtain ⟨x, hx⟩ : ∃ x, (stL s)[i]? = some x := ⟨_, List.getElem?_eq_getElem (by rw [← HN.out]; exact hin)⟩
   have hxs := stL_le (List.mem_of_getElem? hx)
   obtain ⟨b, o, rfl, hbl, hcc⟩ := HNS.out.all (by rw [← HN.out]; omega)
   have d0 := hcc _ _ hx
   have HCC := Lib.hid hcc
   have hI := HIX.out (s.extract x s.size) (by rw [ByteArray.size_extract]; omega)
   rw [Lib.extract_to_end] at hI
   have hxi : (x : Int) ≤ (s.size : Int) := by omega
   rcases HSP.out x with ⟨h1, h2⟩ | ⟨k, h1, h2, h3, h4⟩
   ·rw [h1] at hI
    have hno : fndN s t i = -1 := by
     rw [fndN_skip (n - i) i (fun m q hm1 hm2 hq => by
      have hxq : x ≤ q := by
       rcases Nat.lt_or_ge i m with h5 | h5
       ·exact Nat.le_of_lt (stL_lt h5 hx hq)
       ·have : m = i := by omega
        rw [this, hx] at hq
        injection hq with hq
        omega
      have hqs := stL_le (List.mem_of_getElem? hq)
      have := h2 (q - x) (by rw [List.length_drop]; have : s.data.toList.length = s.size := (by simp); omega)
      rw [occ_pre, show x + (q - x) = q by omega] at this
      exact this) (by rw [← HN.out]; omega)]
     exact fndN_past (by rw [← HN.out]; omega)
    rw [HF.out] at hno
    have HNO := Lib.hid hno
    have HI := Lib.hid hI
    clear hI h1 h2 hno hx hcc
    go_wp2_with fail
    refine HI.out.mono ?_
    rintro e w2 ⟨rfl, rfl⟩
    go_wp2_with fail
    go_ret
    exact ⟨by rw [HNO.out]; rfl, rfl⟩
   ·rw [h1] at hI
    have hsl : s.data.toList.length = s.size := by simp
    rw [List.length_drop, hsl] at h2
    obtain ⟨at0, hat⟩ : ∃ at0, at0 = x + k := ⟨_, rfl⟩
    have hats : at0 ≤ s.size := by omega
    have hlow : ∀ m q, i ≤ m → (stL s)[m]? = some q → x ≤ q := fun m q hm1 hq => by
     rcases Nat.lt_or_ge i m with h5 | h5
     ·exact Nat.le_of_lt (stL_lt h5 hx hq)
     ·have : m = i := by omega
      rw [this, hx] at hq
      injection hq with hq
      omega
    have hsk : ∀ j, i ≤ j → j ≤ n → (∀ m q, i ≤ m → m < j → (stL s)[m]? = some q → q < at0) → fndN s t j = fndN s t i0 := fun j hij hjn hall => by
     rw [← HF.out]
     have h5 := fndN_skip (s := s) (t := t) (j - i) i (fun m q hm1 hm2 hq => by
      have h6 := hall m q hm1 (by omega) hq
      have h7 := hlow m q hm1 hq
      have h8 := h4 (q - x) (by omega)
      rw [occ_pre, show x + (q - x) = q by omega] at h8
      exact h8) (by rw [← HN.out]; omega)
     rw [h5, show i + (j - i) = j by omega]
    have hhit : ∀ j, (stL s)[j]? = some at0 → fndN s t j = (j : Int) := fun j hj => fndN_hit hj (by rw [occ_pre, ← hat] at h3; exact h3)
    have hxat : x ≤ at0 := by omega
    have hxk : (x : Int) + (k : Int) = (at0 : Int) := by omega
    have HI := Lib.hid hI
    have HSK := Lib.hid hsk
    have HHIT := Lib.hid hhit
    have HX := Lib.hid hx
    have k0 : (0 : Int) ≤ (k : Int) := by omega
    have k1 : decide ((k : Int) < 0) = false := decide_eq_false (by omega)
    have hkb : k ≤ 100000000 := by omega
    clear hI h1 h2 h3 h4 hx hcc hsk hhit hlow hsl hat
    obtain ⟨gO, hgO⟩ : ∃ gO, gO = gk := ⟨_, rfl⟩
    subst hgO
    go_wp2_with fail
    refine HI.out.mono ?_
    rintro e w2 ⟨rfl, rfl⟩
    go_wp2_with fail
    go_loopg [3] (n + 1) (fun g s3 wr => ∃ j : Nat, s3 = .int .i64 j ∧ i ≤ j ∧ j ≤ n ∧ n < j + g ∧ (∀ m q, i ≤ m → m < j → (stL s)[m]? = some q → q < at0) ∧ w = wr)
    case atStart => exact ⟨i, rfl, Nat.le_refl _, by omega, by omega, (fun m q h5 h6 => by omega), rfl⟩
    case round =>
     obtain ⟨j, rfl, hij, hjn, hgj, hall, rfl⟩ := hrel
     have hjn2 : j < n := by
      rcases Nat.lt_or_ge j n with h5 | h5
      ·exact h5
      ·have h6 := hall (nR s) s.size (by have := HNR.out; omega) (by have := HNR.out; omega) HLAST.out
       omega
     obtain ⟨y, hy⟩ : ∃ y, (stL s)[j]? = some y := ⟨_, List.getElem?_eq_getElem (by rw [← HN.out]; exact hjn2)⟩
     have d1 := HCC.out _ _ hy
     have HALL := Lib.hid hall
     have HY := Lib.hid hy
     clear hall hy d0
     by_cases hya : y < at0
     ·have g2 : decide (y < at0) = true := decide_eq_true hya
      have g2' : decide ((y : Int) < (at0 : Int)) = true := decide_eq_true (by omega)
      go_wp2_with fail
      go_roundg (n - j)
      case measure => omega
      case rel => exact ⟨j + 1, by go_num, by omega, by omega, by omega, (fun m q h5 h6 h7 => by
       rcases Nat.lt_or_ge m j with h8 | h8
       ·exact HALL.out m q h5 h8 h7
       ·have e : m = j := by omega
        rw [e, HY.out] at h7
        injection h7 with h7
        omega), rfl⟩
     ·have g2 : decide (y < at0) = false := decide_eq_false hya
      have g2' : decide ((y : Int) < (at0 : Int)) = false := decide_eq_false (by omega)
      have hfj := HSK.out j hij (by omega) HALL.out
      by_cases hye : y = at0
      ·subst hye
       have hh := HHIT.out j HY.out
       rw [hfj] at hh
       have HH := Lib.hid hh
       clear hh hfj
       go_wp2_with fail
       go_ret
       exact ⟨by rw [HH.out]; rfl, rfl⟩
      ·have g3 : ((y : Int) == (at0 : Int)) = false := beq_eq_false_iff_ne.2 (by omega)
       have g3' : (y == at0) = false := beq_eq_false_iff_ne.2 hye
       have hji : i < j := by
        rcases Nat.lt_or_ge i j with h5 | h5
        ·exact h5
        ·exfalso
         have e : j = i := by omega
         have h6 := HY.out
         rw [e, HX.out] at h6
         injection h6 with h6
         have := HALL
         omega
       have HFJ := Lib.hid hfj
       clear hfj
       go_wp2_with fail
       go_roundg (n - i)
       case measure => omega
       case rel => exact ⟨j, rfl, HFJ.out, by omega, by omega, rfl⟩
  ·have g1 : decide (i < n) = false := decide_eq_false hin
   have hh := fndN_past (s := s) (t := t) (i := i) (by rw [← HN.out]; omega)
   rw [HF.out] at hh
   have HH := Lib.hid hh
   clear hh
   go_wp2_with fail
   go_ret
   exact ⟨by rw [HH.out]; rfl, rfl⟩
theorem sfind_any (s t : ByteArray) (a : Int) (w : World) (hs : s.size ≤ 100000000) (ht : t.size ≤ 100000000) (ha : -9223372036854775808 ≤ a ∧ a ≤ 9223372036854775807) (hm : MX w) :
  Calls Tryz.prog 77 #[.string s, .string t, .int .i64 a] w fun e w' => e = .returned (.int .i64 (fndN s t (max 0 a).toNat)) ∧ Below w.heap.size w w' := by
 have hO := soffsets_any s w hs
 have HM := Lib.hid hm
 obtain ⟨i0, hi0⟩ : ∃ i0 : Nat, i0 = (max 0 a).toNat := ⟨_, rfl⟩
 rw [← hi0]
 have e0 : max a 0 = (i0 : Int) := by omega
 have hi1 : i0 ≤ 9223372036854775807 := by omega
 clear hi0 hm
 go_enter Tryz.func77, Tryz.ntmps77
 go_wp2_with fail
 refine hO.mono ?_
 rintro e w1 ⟨p, c, rfl, hNS, hb⟩
 have hC := socc_any s t p c i0 w1 hs ht hi1 (HM.out.below hb) hNS
 have HC := Lib.hid hC
 clear hC hNS hO
 go_wp2_with fail
 refine HC.out.mono ?_
 rintro e w2 ⟨rfl, rfl⟩
 go_wp2_with fail
 go_ret
 exact ⟨rfl, hb⟩
def occS (s t : ByteArray) : List Nat := if t.size = 0 then [] else occL s.data.toList t.data.toList (stL s) 0
theorem occL_skip {l t : List UInt8} : ∀ (Q : List Nat) (e d : Nat), (∀ m q, m < d → Q[m]? = some q → ¬ (e ≤ q ∧ Lib.hasPrefix (l.drop q) t = true)) → occL l t Q e = occL l t (Q.drop d) e
 | [], e, d, _ => by simp
 | q :: Q, e, 0, _ => rfl
 | q :: Q, e, d + 1, h => by
   rw [occL, if_neg (h 0 q (by omega) rfl), List.drop_succ_cons]
   exact occL_skip Q e d fun m q' hm hq => h (m + 1) q' (by omega) (by simpa using hq)
theorem fndL_some {l t : List UInt8} : ∀ (Q : List Nat) (k : Nat), fndL l t Q = some k → ∃ q, Q[k]? = some q ∧ Lib.hasPrefix (l.drop q) t = true ∧ ∀ m q', m < k → Q[m]? = some q' → Lib.hasPrefix (l.drop q') t = false
 | [], k, h => by simp [fndL] at h
 | q :: Q, k, h => by
   rw [fndL] at h
   by_cases hp : Lib.hasPrefix (l.drop q) t = true
   ·rw [if_pos hp] at h
    injection h with h
    subst h
    exact ⟨q, rfl, hp, fun m q' hm => by omega⟩
   ·rw [if_neg hp] at h
    cases h1 : fndL l t Q with
    | none => rw [h1] at h; cases h
    | some k' =>
      rw [h1] at h
      injection h with h
      have h : k' + 1 = k := h
      subst h
      obtain ⟨x, e1, e2, e3⟩ := fndL_some Q k' h1
      refine ⟨x, by simpa using e1, e2, fun m q' hm hq => ?_⟩
      cases m with
      | zero =>
        have : q = q' := by simpa using hq
        rw [← this]; simpa using hp
      | succ m => exact e3 m q' (by omega) (by simpa using hq)
theorem fndL_none {l t : List UInt8} : ∀ (Q : List Nat), fndL l t Q = none → ∀ q ∈ Q, Lib.hasPrefix (l.drop q) t = false
 | [], _, q, h => by cases h
 | q :: Q, h, x, hx => by
   rw [fndL] at h
   by_cases hp : Lib.hasPrefix (l.drop q) t = true
   ·rw [if_pos hp] at h; cases h
   ·rw [if_neg hp] at h
    cases h1 : fndL l t Q with
    | some k => rw [h1] at h; cases h
    | none =>
      rcases List.mem_cons.1 hx with rfl | hx
      ·simpa using hp
      ·exact fndL_none Q h1 x hx
end Go.Proofs.YtcklofamaooegaaGreatDoor
