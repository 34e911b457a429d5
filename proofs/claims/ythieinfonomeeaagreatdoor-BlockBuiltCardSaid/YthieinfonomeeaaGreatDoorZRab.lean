/-
  The claim's own texts, packed. Conditions: those typed in each theorem.
-/
import Derived.Test.YthieinfonomeeaaGreatDoorZAaj
import Derived.Test.YthieinfonomeeaaGreatDoorZAap
import Derived.Lib.OthersKept
import Derived.WalkSmall
namespace Go.Proofs.YthieinfonomeeaaGreatDoor
open Go.RowKit Doc Tit
set_option linter.unusedVariables false
attribute [local go_sem ↓] Go.wp_at_zero Go.wp_at_succ
def ncs (l : List Nat) : List Value := l.map fun n : Nat => Value.int .i64 (n : Int)
def nS : Shp (List Nat) where
 len := List.length
 app := fun a b => a ++ b
 sz := 1
 enc := fun _ _ l xs => xs = ncs l
 nil := []
 enc_nil := fun _ _ => rfl
 len_nil := rfl
 nil_of := fun L h => List.length_eq_zero_iff.1 h
 on := fun _ h => h
 join := fun h k => by rw [h, k]; simp [ncs]
 length := fun h => by rw [h]; simp [ncs]
 ones := fun h u hu => by
  rw [h] at hu
  obtain ⟨s, _, rfl⟩ := List.mem_map.1 hu
  rfl
 len_app := fun a b => List.length_append
theorem tyN : Typ Tryz.prog 29 3 1 8 := Typ.mk' (z := .int .i64 0) Tryz.underlying29 (by kernel_rfl) rfl (by decide)
theorem src_n {q : Nat → Prop} {w : World} {n : Nat} {ty : TypeId} : nS.src q (w.alloc (.cells #[.int .i64 (n : Int)] ty)) (.slice (some ⟨w.heap.size, 0, none⟩) 1 1) [n] := ⟨_, Src.new w ty _ 1 1, rfl⟩
def NSL (w : World) (p : Option Addr) (c : Nat) (l : List Nat) : Prop :=
 l.length ≤ c ∧ c ≤ 9223372036854775807 ∧ (l = [] ∨ ∃ b o, p = some ⟨b, o, none⟩ ∧ b < w.heap.size ∧ ∀ (j : Nat) (x : Nat), l[j]? = some x → w.cell? ⟨b, o + j, none⟩ = some (.int .i64 (x : Int)))
theorem NSL.of_sl {q : Nat → Prop} {w : World} {p : Option Addr} {c : Nat} {l : List Nat} (h : nS.sl q w (.slice p l.length c) l) : NSL w p c l := by
 obtain ⟨p', c', h1, h2, h3, h4, h5⟩ := h
 injection h1 with e1 e2 e3
 subst e1 e3
 refine ⟨h2, h3, ?_⟩
 rcases h5 with h5 | ⟨b, o, ys, rfl, hq, hl, hA, hE⟩
 ·exact .inl (List.length_eq_zero_iff.1 h5)
 ·refine .inr ⟨b, o, rfl, hl, fun j x hj => hA j _ ?_⟩
  rw [hE]
  simp [ncs, hj]
theorem NSL.below {w w' : World} {p : Option Addr} {c : Nat} {l : List Nat} (h : NSL w p c l) (hb : Below w.heap.size w w') : NSL w' p c l := by
 obtain ⟨h1, h2, h3⟩ := h
 refine ⟨h1, h2, ?_⟩
 rcases h3 with h3 | ⟨b, o, rfl, hl, h4⟩
 ·exact .inl h3
 ·exact .inr ⟨b, o, rfl, Nat.lt_of_lt_of_le hl hb.size, fun j x hj => (hb.cell (p := ⟨b, o + j, none⟩) hl).trans (h4 j x hj)⟩
theorem NSL.all {w : World} {p : Option Addr} {c : Nat} {l : List Nat} (h : NSL w p c l) (h0 : 0 < l.length) : ∃ b o, p = some ⟨b, o, none⟩ ∧ b < w.heap.size ∧ ∀ (j : Nat) (x : Nat), l[j]? = some x → w.cell? ⟨b, o + j, none⟩ = some (.int .i64 (x : Int)) := by
 rcases h.2.2 with h | h
 ·rw [h] at h0; cases h0
 ·exact h
theorem width_pos (s : ByteArray) (pos : Nat) (h : pos < s.size) : 1 ≤ (Utf8.decode s pos).2 := by
 by_cases ha : (s[pos]'h).toNat < 128
 ·rw [decode_ascii s pos h ha]
  exact Nat.le_refl _
 ·exact (decode_high s pos h (by omega)).2
def rst (s : ByteArray) : Nat → Nat → List Nat
 | 0, _ => []
 | f + 1, pos => if pos < s.size then pos :: rst s f (pos + (Utf8.decode s pos).2) else []
theorem rst_end (s : ByteArray) (f pos : Nat) (h : ¬ pos < s.size) : rst s f pos = [] := by
 cases f with
 | zero => rfl
 | succ f => rw [rst, if_neg h]
theorem rst_step (s : ByteArray) (f pos : Nat) (h : pos < s.size) : rst s (f + 1) pos = pos :: rst s f (pos + (Utf8.decode s pos).2) := by rw [rst, if_pos h]
def stL (s : ByteArray) : List Nat := rst s s.size 0 ++ [s.size]
theorem rst_len (s : ByteArray) : ∀ (f pos : Nat), (rst s f pos).length ≤ s.size - pos
 | 0, pos => by simp [rst]
 | f + 1, pos => by
   by_cases h : pos < s.size
   ·have hw := width_pos s pos h
    rw [rst_step s f pos h, List.length_cons]
    have := rst_len s f (pos + (Utf8.decode s pos).2)
    omega
   ·rw [rst_end s _ pos h]; simp
theorem rst_le (s : ByteArray) : ∀ (f pos x : Nat), x ∈ rst s f pos → pos ≤ x ∧ x < s.size
 | 0, pos, x, h => by cases h
 | f + 1, pos, x, h => by
   by_cases hp : pos < s.size
   ·rw [rst_step s f pos hp] at h
    rcases List.mem_cons.1 h with rfl | h
    ·exact ⟨Nat.le_refl _, hp⟩
    ·have := rst_le s f _ x h
     omega
   ·rw [rst_end s _ pos hp] at h; cases h
theorem stL_len (s : ByteArray) : (stL s).length ≤ s.size + 1 := by
 unfold stL
 rw [List.length_append]
 have := rst_len s s.size 0
 simp; omega
theorem stL_le {s : ByteArray} {x : Nat} (h : x ∈ stL s) : x ≤ s.size := by
 rcases List.mem_append.1 h with h | h
 ·exact Nat.le_of_lt (rst_le s _ _ x h).2
 ·have : x = s.size := by simpa using h
  omega
theorem rst_sorted (s : ByteArray) : ∀ (f pos : Nat), (rst s f pos).Pairwise (· < ·)
 | 0, pos => List.Pairwise.nil
 | f + 1, pos => by
   by_cases h : pos < s.size
   ·have hw := width_pos s pos h
    rw [rst_step s f pos h, List.pairwise_cons]
    exact ⟨fun x hx => by have := (rst_le s f _ x hx).1; omega, rst_sorted s f _⟩
   ·rw [rst_end s _ pos h]; exact List.Pairwise.nil
theorem stL_sorted (s : ByteArray) : (stL s).Pairwise (· < ·) := by
 unfold stL
 rw [List.pairwise_append]
 exact ⟨rst_sorted s _ _, List.pairwise_singleton _ _, fun x hx y hy => by
  have : y = s.size := by simpa using hy
  have := (rst_le s _ _ x hx).2
  omega⟩
theorem own_iter {q : Nat → Prop} {B : Nat} {w : World} {v : Value} {l : List Nat} (h : nS.own 3 q B w v l) {k : Nat} (hk : k < B) (s : ByteArray) (p : Nat) : nS.own 3 q B (w.iterAt k s p) v l := by
 obtain ⟨xs, h1, h2⟩ := h
 exact ⟨xs, ownsRow_iterAt h1 hk s p, h2⟩
set_option maxRecDepth 10000 in
set_option maxHeartbeats 2000000 in
theorem rstarts_any (s : ByteArray) (w : World) (hs : s.size ≤ 100000000) : Calls Tryz.prog 155 #[.string s] w fun e w' => ∃ p c, e = .returned (.slice p (stL s).length c) ∧ NSL w' p c (stL s) ∧ Below w.heap.size w w' := by
 have hW : (w.iter s 0).heap[w.heap.size]? = some (.stringIter s 0) := World.iter_heap w s 0
 have hz1 : (w.iter s 0).heap.size = w.heap.size + 1 := by show (w.alloc _).heap.size = _; rw [World.size_alloc]
 have hb1 : Below w.heap.size w (w.iter s 0) := below_new0 w _
 have HW := Lib.hid hW
 have HB1 := Lib.hid hb1
 clear hW hb1
 go_enter Tryz.func155, Tryz.ntmps155
 go_wp2_with fail
 go_loopg [3] (s.size + 1) (fun g s3 wr => ∃ (pos f : Nat) (P : List Nat), wr.heap[w.heap.size]? = some (.stringIter s pos) ∧ nS.own 3 (fun _ => False) (w.heap.size + 1) wr s3 P ∧ P ++ rst s f pos = rst s s.size 0 ∧ s.size ≤ pos + f ∧ s.size < pos + g ∧ P.length ≤ pos ∧ P.length ≤ s.size ∧ w.heap.size + 1 ≤ wr.heap.size ∧ Below w.heap.size w wr)
 case atStart => exact ⟨0, s.size, [], HW.out, Shp.own.nil, rfl, by omega, by omega, Nat.le_refl _, Nat.zero_le _, by rw [hz1]; exact Nat.le_refl _, HB1.out⟩
 case round =>
  obtain ⟨pos, f, P, hit, hown, hP, hf, hg, hPl, hPs, hzw, hb⟩ := hrel
  have HP := Lib.hid hP
  have HB := Lib.hid hb
  have hlenP : nS.len P = P.length := rfl
  by_cases hp : pos < s.size
  ·have hnx := fun ty => Lib.run_next_any_at (P := Tryz.prog) wr w.heap.size s pos ty hit hp
   have hwd := width_pos s pos hp
   obtain ⟨f, rfl⟩ : ∃ k, f = k + 1 := ⟨f - 1, by omega⟩
   rw [rst_step s f pos hp] at hP
   generalize (Utf8.decode s pos).1 = rn at hnx
   generalize hwdd : (Utf8.decode s pos).2 = wd at hnx hwd hP
   have hit2 := Lib.iterAt_heap wr w.heap.size s pos (pos + wd) hit
   have hown2 := own_iter hown (Nat.lt_succ_self _) s (pos + wd)
   have hz2 := Lib.iterAt_size wr w.heap.size s (pos + wd)
   have hb2 := Lib.below_iterAt hb (Nat.le_refl _) s (pos + wd)
   obtain ⟨W, hWW⟩ : ∃ W, wr.iterAt w.heap.size s (pos + wd) = W := ⟨_, rfl⟩
   simp only [hWW] at hnx
   rw [hWW] at hit2 hown2 hz2 hb2
   have hoA := hown2.below (below_new0 W (.cells #[.int .i64 (pos : Int)] 3))
   have HOA := Lib.hid hoA
   have HB2 := Lib.hid hb2
   have HIT2 := Lib.hid hit2
   have hPn : (P ++ [pos]) ++ rst s f (pos + wd) = rst s s.size 0 := by rw [← hP]; simp
   have HPN := Lib.hid hPn
   have hPl2 : (P ++ [pos]).length ≤ s.size := by
    have h1 := rst_len s s.size 0
    rw [← hPn, List.length_append] at h1
    omega
   have HPL2 := Lib.hid hPl2
   have hzW : w.heap.size + 1 ≤ (W.alloc (.cells #[.int .i64 (pos : Int)] 3)).heap.size := by rw [World.size_alloc]; omega
   have HZ2 := Lib.hid hz2
   clear hit hown hP hoA hb2 hit2 hPn hWW hwdd hown2 hPl2 hb hz2
   go_wp2_with (at_builtin; go_must (refine append_shp nS tyN _ rfl _ _ rfl HOA.out rfl (src_n (n := pos)) rfl (by rw [hlenP]; show (P.length + 1) * 9 ≤ _; omega) hzW ?_); intro v' w4 O4 hgrow hbel hkd)
   have hlt := HOA.out.lt
   have hbn : Below w.heap.size w w4 := (below_then HB2.out (below_new0 _ _)).grown hgrow (Nat.le_of_succ_le hzW) (fun k hk => Nat.le_of_succ_le (hlt k hk).1)
   have hit4 : w4.heap[w.heap.size]? = some (.stringIter s (pos + wd)) := by
    have hz2 := HZ2.out
    rw [hgrow.block w.heap.size (by rw [World.size_alloc]; omega) (fun e => by have := (hlt _ e.symm).1; omega), Below.heap_alloc W _ _ (by omega)]
    exact HIT2.out
   have hz4 : w.heap.size + 1 ≤ w4.heap.size := by have := hgrow.size; omega
   clear hgrow hbel hkd hlt
   go_roundg (s.size - pos)
   case measure => omega
   case rel => exact ⟨pos + wd, f, P ++ [pos], hit4, O4, HPN.out, by omega, by omega, by rw [List.length_append]; show P.length + 1 ≤ _; omega, HPL2.out, hz4, hbn⟩
  ·have hnx := fun ty => Lib.run_next_end_at (P := Tryz.prog) wr w.heap.size s pos ty hit hp
   rw [rst_end s f pos hp, List.append_nil] at hP
   have hst : P ++ [s.size] = stL s := by rw [hP]; rfl
   have HST := Lib.hid hst
   have hoA := hown.below (below_new0 wr (.cells #[.int .i64 (s.size : Int)] 3))
   have HOA := Lib.hid hoA
   have hzW : w.heap.size + 1 ≤ (wr.alloc (.cells #[.int .i64 (s.size : Int)] 3)).heap.size := by rw [World.size_alloc]; omega
   clear hP hst hown hoA hb
   go_wp2_with (at_builtin; go_must (refine append_shp nS tyN _ rfl _ _ rfl HOA.out rfl (src_n (n := s.size)) rfl (by rw [hlenP]; show (P.length + 1) * 9 ≤ _; omega) hzW ?_); intro v' w4 O4 hgrow hbel hkd)
   have hlt := HOA.out.lt
   have hbn : Below w.heap.size w w4 := (below_then HB.out (below_new0 _ _)).grown hgrow (Nat.le_of_succ_le hzW) (fun k hk => Nat.le_of_succ_le (hlt k hk).1)
   have O5 : nS.own 3 (fun _ => False) (w.heap.size + 1) w4 v' (P ++ [s.size]) := O4
   obtain ⟨p', c', hvv⟩ := O5.form
   replace hvv : v' = .slice p' (P ++ [s.size]).length c' := hvv
   have h4 := O5.sl
   rw [hvv] at h4
   have h5 := NSL.of_sl h4
   subst hvv
   have H5 := Lib.hid h5
   clear hgrow hbel hkd O4 O5 h4 h5
   go_wp2_with fail
   go_ret
   exact ⟨p', c', by rw [← HST.out]; rfl, by rw [← HST.out]; exact H5.out, hbn⟩
end Go.Proofs.YthieinfonomeeaaGreatDoor
