/-
  The claim's own texts, packed. Conditions: those typed in each theorem.
-/
import Derived.Test.YthieinfonomeeaaGreatDoorZLab
import Derived.Test.YthieinfonomeeaaGreatDoorZAag
namespace Go.Proofs.YthieinfonomeeaaGreatDoor
open Go.RowKit Doc
set_option linter.unusedVariables false
theorem TP.keep {g : Nat} {w w' : World} (h : TP g w) (hk : ∀ k, k ≤ g → w'.heap[k]? = w.heap[k]?) : TP g w' := by
 obtain ⟨a, len, cap, k, zs, h1, h2, h3, h4⟩ := h
 exact ⟨a, len, cap, k, zs, (hk g (Nat.le_refl _)).trans h1, h2.keep (fun x i hx hp => World.cell?_of_block (w := w) (hk _ (by have := h4 x hx hp; rw [add_block]; omega))), h3, h4⟩
structure TpS (g : Nat) (V W : World) : Prop where
 st : TStep g V W
 tp : TP g W
theorem TpS.refl {g : Nat} {V : World} (h : TP g V) : TpS g V V := ⟨TStep.refl _ _, h⟩
theorem TpS.size {g : Nat} {V W : World} (h : TpS g V W) : V.heap.size ≤ W.heap.size := h.st.below.size
theorem TpS.trans {g : Nat} {U V W : World} (h : TpS g U V) (k : TpS g V W) : TpS g U W := ⟨h.st.trans k.st, k.tp⟩
theorem TpS.on {g : Nat} {V W W' : World} (h : TpS g V W) (s : TStep g W W') (t : TP g W') : TpS g V W' := ⟨h.st.trans s, t⟩
theorem TpS.below {g : Nat} {V W W' : World} (h : TpS g V W) (b : Below W.heap.size W W') : TpS g V W' := ⟨h.st.trans (TStep.of_below b (Nat.le_of_lt h.tp.lt)), h.tp.below b⟩
theorem TpS.drew {g : Nat} {V W : World} (h : TpS g V W) : TpS g V W.drew := h.below (Below.refl _ _).drew
theorem TpS.new {g : Nat} {V W : World} (h : TpS g V W) (o : Obj) : TpS g V (W.alloc o) := h.below (below_new0 W o)
theorem TpS.put {g : Nat} {V W : World} (h : TpS g V W) {X : Nat} (hX : V.heap.size ≤ X) (hg : g < X) (i : Nat) (u : Value) : TpS g V (W.setCell ⟨X, i, none⟩ u) :=
 ⟨⟨h.st.below.setCell (p := ⟨X, i, none⟩) (Nat.le_of_lt hg) u, fun k h1 h2 => (Below.heap_setCell _ _ _ _ (show k ≠ X by omega)).trans (h.st.rest k h1 h2)⟩,
  h.tp.keep fun k hk => Below.heap_setCell _ _ _ _ (show k ≠ X by omega)⟩
theorem TpS.grown {g : Nat} {V W W' : World} (h : TpS g V W) {row : Option Nat} (k : W.grownBy W' row) (hr : ∀ j, row = some j → V.heap.size ≤ j ∧ g < j) : TpS g V W' :=
 ⟨⟨h.st.below.grown k (Nat.le_of_lt h.tp.lt) (fun j hj => Nat.le_of_lt (hr j hj).2), fun j h1 h2 => (k.block j (Nat.lt_of_lt_of_le h2 h.size) (fun e => by have := (hr j e.symm).1; omega)).trans (h.st.rest j h1 h2)⟩,
  h.tp.keep fun j hj => k.block j (by have := h.tp.lt; omega) (fun e => by have := (hr j e.symm).2; omega)⟩
theorem tNext (g n : Nat) (V W : World) (hn : 0 < n) (hn2 : n ≤ 1000) (h : TpS g V W) :
  Calls Tryz.prog 17 #[.pointer (some ⟨g, 0, none⟩), .int .i64 n] W fun e w' => ∃ r : Nat, e = .returned (.int .i64 r) ∧ r < n ∧ TpS g V w' ∧ TStep g W w' :=
 (tapeNext g n W hn hn2 h.tp).mono fun e w' ⟨r, h1, h2, h3, h4⟩ => ⟨r, h1, h2, h.on h3 h4, h3⟩
end Go.Proofs.YthieinfonomeeaaGreatDoor
namespace Go.Proofs.YthieinfonomeeaaGreatDoor
open Go.RowKit
set_option linter.unusedVariables false
set_option linter.unusedSimpArgs false
theorem tOfMem (g : Nat) (l : List ByteArray) (V W : World) (ty : TypeId) (z : Nat) (e0 : W.heap.size = z) (h0 : 0 < l.length) (h1 : l.length ≤ 1000) (h : TpS g V W) :
  Calls Tryz.prog 18 #[.pointer (some ⟨g, 0, none⟩), .slice (some ⟨z, 0, none⟩) l.length l.length] (W.alloc (.cells (l.map Value.string).toArray ty)) fun e w' => ∃ t : ByteArray, e = .returned (.string t) ∧ t ∈ l ∧ TpS g V w' ∧ TStep g W w' := by
 subst e0
 have hl := h.tp.lt
 exact (tapeOf g W.heap.size l _ h0 h1 (Strs.made W ty l) (by simp) (by omega) (h.new _).tp).mono fun e w' ⟨t, h2, h3, h4, h5⟩ => ⟨t, h2, h3, (h.new _).on h4 h5, (TStep.of_below (below_new0 W _) (by omega)).trans h4⟩
end Go.Proofs.YthieinfonomeeaaGreatDoor
namespace Go.Proofs.YthieinfonomeeaaGreatDoor
open Go.RowKit Doc
set_option linter.unusedVariables false
theorem TP.made {w : World} {a : Option Addr} {len cap : Nat} {zs : List Int} (h : IsInts w a len cap zs) : TP w.heap.size (w.alloc (.cells #[.slice a len cap, .int .i64 0] 66)) := by
 have hb : ∀ x, a = some x → 0 < cap → x.block < w.heap.size := by
  intro x hx hl
  rcases h with ⟨_, _, h, _⟩ | ⟨y, hy, _, _, h7, h8, _⟩
  ·omega
  ·rw [hx] at hy
   obtain rfl := Option.some.inj hy
   have := World.block_lt_of_cell? w _ (h8 0 (by omega))
   rwa [add_block] at this
 exact ⟨a, len, cap, 0, zs, Known.made w _ _, h.keep (fun x i hx hp => (below_new0 w _).cell (p := x.add i) (by rw [add_block]; exact hb x hx hp)), by omega, hb⟩
theorem new_any (a : Option Addr) (len cap : Nat) (w : World) :
  Calls Tryz.prog 16 #[.slice a len cap] w fun e w' => e = .returned (.pointer (some ⟨w.heap.size, 0, none⟩)) ∧ w.alloc (.cells #[.slice a len cap, .int .i64 0] 66) = w' := by
 go_enter Tryz.func16, Tryz.ntmps16
 go_wp2_with fail
 go_ret
 exact ⟨rfl, rfl⟩
theorem newT (a : Option Addr) (len cap : Nat) (zs : List Int) (w : World) (hz : IsInts w a len cap zs) :
  Calls Tryz.prog 16 #[.slice a len cap] w fun e w' => ∃ g, e = .returned (.pointer (some ⟨g, 0, none⟩)) ∧ w.heap.size ≤ g ∧ Below w.heap.size w w' ∧ TP g w' :=
 (new_any a len cap w).mono fun e w' ⟨h1, h2⟩ => ⟨_, h1, Nat.le_refl _, by rw [← h2]; exact below_new0 _ _, by rw [← h2]; exact TP.made hz⟩
theorem IsInts.below {W W' : World} {a : Option Addr} {len cap : Nat} {zs : List Int} (h : IsInts W a len cap zs) (hb : Below W.heap.size W W') : IsInts W' a len cap zs := by
 have hc : ∀ x, a = some x → 0 < cap → x.block < W.heap.size := by
  intro x hx hl
  rcases h with ⟨_, _, h, _⟩ | ⟨y, hy, _, _, h7, h8, _⟩
  ·omega
  ·rw [hx] at hy
   obtain rfl := Option.some.inj hy
   have := World.block_lt_of_cell? W _ (h8 0 (by omega))
   rwa [add_block] at this
 exact h.keep fun x i hx hp => hb.cell (p := x.add i) (by rw [add_block]; exact hc x hx hp)
end Go.Proofs.YthieinfonomeeaaGreatDoor
