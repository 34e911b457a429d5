/-
  What a tape's readings leave as it was; a title off the tape. Conditions: those typed in each theorem.
-/
import Derived.Test.YtibmemaciahofaaDoorTape
import Derived.Test.YtibmemaciahofaaDoorDocMem
namespace Go.Proofs.YtibmemaciahofaaDoor
open Go.RowKit Doc
set_option linter.unusedVariables false

theorem TP.keep {g : Nat} {w w' : World} (h : TP g w) (hk : ∀ k, k ≤ g → w'.heap[k]? = w.heap[k]?) : TP g w' := by
  obtain ⟨a, len, cap, k, zs, h1, h2, h3, h4⟩ := h
  exact ⟨a, len, cap, k, zs, (hk g (Nat.le_refl _)).trans h1, h2.keep (fun x i hx hp => World.cell?_of_block (w := w) (hk _ (by have := h4 x hx hp; rw [add_block]; omega))), h3, h4⟩
/-- from V on nothing but the tape has turned, and it is a tape still -/
structure TS (g : Nat) (V W : World) : Prop where
  st : Step g V W
  tp : TP g W
theorem TS.refl {g : Nat} {V : World} (h : TP g V) : TS g V V := ⟨Step.refl _ _, h⟩
theorem TS.size {g : Nat} {V W : World} (h : TS g V W) : V.heap.size ≤ W.heap.size := h.st.below.size
theorem TS.trans {g : Nat} {U V W : World} (h : TS g U V) (k : TS g V W) : TS g U W := ⟨h.st.trans k.st, k.tp⟩
theorem TS.on {g : Nat} {V W W' : World} (h : TS g V W) (s : Step g W W') (t : TP g W') : TS g V W' := ⟨h.st.trans s, t⟩
theorem TS.below {g : Nat} {V W W' : World} (h : TS g V W) (b : Below W.heap.size W W') : TS g V W' := ⟨h.st.trans (Step.of_below b (Nat.le_of_lt h.tp.lt)), h.tp.below b⟩
theorem TS.drew {g : Nat} {V W : World} (h : TS g V W) : TS g V W.drew := h.below (Below.refl _ _).drew
theorem TS.new {g : Nat} {V W : World} (h : TS g V W) (o : Obj) : TS g V (W.alloc o) := h.below (below_new0 W o)
theorem TS.put {g : Nat} {V W : World} (h : TS g V W) {X : Nat} (hX : V.heap.size ≤ X) (hg : g < X) (i : Nat) (u : Value) : TS g V (W.setCell ⟨X, i, none⟩ u) :=
  ⟨⟨h.st.below.setCell (p := ⟨X, i, none⟩) (Nat.le_of_lt hg) u, fun k h1 h2 => (Below.heap_setCell _ _ _ _ (show k ≠ X by omega)).trans (h.st.rest k h1 h2)⟩,
   h.tp.keep fun k hk => Below.heap_setCell _ _ _ _ (show k ≠ X by omega)⟩
theorem TS.grown {g : Nat} {V W W' : World} (h : TS g V W) {row : Option Nat} (k : W.grownBy W' row) (hr : ∀ j, row = some j → V.heap.size ≤ j ∧ g < j) : TS g V W' :=
  ⟨⟨h.st.below.grown k (Nat.le_of_lt h.tp.lt) (fun j hj => Nat.le_of_lt (hr j hj).2), fun j h1 h2 => (k.block j (Nat.lt_of_lt_of_le h2 h.size) (fun e => by have := (hr j e.symm).1; omega)).trans (h.st.rest j h1 h2)⟩,
   h.tp.keep fun j hj => k.block j (by have := h.tp.lt; omega) (fun e => by have := (hr j e.symm).2; omega)⟩
theorem own_step {α : Type} {S : Shp α} {e : TypeId} {g B : Nat} {w w' : World} {v : Value} {L : α} (h : S.own e (fun _ => False) B w v L) (s : Step g w w') (hg : g < B) : S.own e (fun _ => False) B w' v L := by
  have hl := h.lt
  obtain ⟨xs, h1, h2⟩ := h
  exact ⟨xs, own_on h1 (fun k hk => s.rest k (by have := (hl k hk).1; omega) (hl k hk).2), S.on (fun k hk hlt => ⟨hk, s.rest k (by rcases hk.1 with h | h; exact h.elim; omega) hlt⟩) h2⟩
theorem tNext (g n : Nat) (V W : World) (hn : 0 < n) (hn2 : n ≤ 1000) (h : TS g V W) :
    Calls Tryd.prog 34 #[.pointer (some ⟨g, 0, none⟩), .int .i64 n] W fun e w' => ∃ r : Nat, e = .returned (.int .i64 r) ∧ r < n ∧ TS g V w' ∧ Step g W w' :=
  (tapeNext g n W hn hn2 h.tp).mono fun e w' ⟨r, h1, h2, h3, h4⟩ => ⟨r, h1, h2, h.on h3 h4, h3⟩
theorem tOf (g x : Nat) (l : List ByteArray) (V W : World) (h0 : 0 < l.length) (h1 : l.length ≤ 1000) (hz : (l.all fun t => decide (t.size ≤ 99)) = true) (hL : Strs W x l) (hx : x < W.heap.size) (hxg : x ≠ g) (h : TS g V W) :
    Calls Tryd.prog 36 #[.pointer (some ⟨g, 0, none⟩), .slice (some ⟨x, 0, none⟩) l.length l.length] W fun e w' => ∃ t : ByteArray, e = .returned (.string t) ∧ t.size ≤ 99 ∧ TS g V w' ∧ Step g W w' :=
  (tapeOf g x l W h0 h1 hL hx hxg h.tp).mono fun e w' ⟨t, h1, h2, h3, h4⟩ => ⟨t, h1, by simpa using List.all_eq_true.1 hz t h2, h.on h3 h4, h3⟩
/-- .. of texts that have just been laid -/
theorem tOfNew (g : Nat) (l : List ByteArray) (V W : World) (ty : TypeId) (z : Nat) (e0 : W.heap.size = z) (h0 : 0 < l.length) (h1 : l.length ≤ 1000) (hz : (l.all fun t => decide (t.size ≤ 99)) = true) (h : TS g V W) :
    Calls Tryd.prog 36 #[.pointer (some ⟨g, 0, none⟩), .slice (some ⟨z, 0, none⟩) l.length l.length] (W.alloc (.cells (l.map Value.string).toArray ty)) fun e w' => ∃ t : ByteArray, e = .returned (.string t) ∧ t.size ≤ 99 ∧ TS g V w' ∧ Step g W w' := by
  subst e0
  have hl := h.tp.lt
  exact (tOf g W.heap.size l V _ h0 h1 hz (Strs.made W ty l) (by simp) (by omega) (h.new _)).mono fun e w' ⟨t, h2, h3, h4, h5⟩ => ⟨t, h2, h3, h4, (Step.of_below (below_new0 W _) (by omega)).trans h5⟩

def titlesB : List ByteArray := [⟨#[65]⟩, ⟨#[66]⟩, ⟨#[65, 47, 66]⟩, ⟨#[67]⟩, ⟨#[84]⟩, ⟨#[85, 47, 120]⟩, ⟨#[65, 47, 66, 47, 99]⟩, ⟨#[76, 111, 110, 103, 32, 110, 97, 109, 101]⟩, ⟨#[49]⟩, ⟨#[88]⟩]
set_option maxRecDepth 20000 in
set_option maxHeartbeats 2000000 in
/-- a title off the tape -/
theorem tTitle0 (g : Nat) (W : World) (h : TS g W W) :
    Calls Tryd.prog 50 #[.pointer (some ⟨g, 0, none⟩)] W fun e w' => ∃ (s : Nat) (n : ByteArray), e = .returned (.agg #[.int .i64 s, .string n]) ∧ n.size ≤ 99 ∧ TS g W w' := by
  have hg := h.tp.lt
  have h0 := h.new (.cells #[.int .i64 0, .string ⟨#[]⟩] 44)
  have k0 := Known.made W 44 #[.int .i64 0, .string ⟨#[]⟩]
  go_enter Tryd.func50, Tryd.ntmps50
  go_wp2_with fail
  refine (tNext g 6 W _ (by omega) (by omega) h0).mono ?_
  rintro e w1 ⟨r, rfl, hr, ts, st⟩
  have KX := k0.step st (by omega)
  have hz := ts.size
  have hO := tOfNew g titlesB W w1 9 _ rfl (by decide) (by decide) (by decide) ts
  clear h0 k0
  go_wp2_with fail
  refine hO.mono ?_
  rintro e w2 ⟨n, rfl, hn, ts, st2⟩
  have KX := KX.step st2 (by omega)
  have hz2 := ts.size
  have hXl := KX.lt
  have f0 := KX.free 0
  have f1 := KX.free 1
  have c0 := KX.cell 0
  have c1 := KX.cell 1
  clear hO
  go_wp2_with fail
  have K2 := (KX.put 0 (.int .i64 r)).put 1 (.string n)
  have c0 := K2.cell 0
  have c1 := K2.cell 1
  exact bodyPost_ret (v := .agg #[.int .i64 r, .string n]) (by simp [results, Tryd.results50, go_sem, c0, c1]) rfl
    ⟨r, n, rfl, hn, (ts.put (by omega) (by omega) _ _).put (by omega) (by omega) _ _⟩
theorem tTitle (g : Nat) (V W : World) (h : TS g V W) :
    Calls Tryd.prog 50 #[.pointer (some ⟨g, 0, none⟩)] W fun e w' => ∃ (s : Nat) (n : ByteArray), e = .returned (.agg #[.int .i64 s, .string n]) ∧ n.size ≤ 99 ∧ TS g V w' ∧ Step g W w' :=
  (tTitle0 g W (TS.refl h.tp)).mono fun e w' ⟨s, n, h1, h2, h3⟩ => ⟨s, n, h1, h2, h.trans h3, h3.st⟩
end Go.Proofs.YtibmemaciahofaaDoor
