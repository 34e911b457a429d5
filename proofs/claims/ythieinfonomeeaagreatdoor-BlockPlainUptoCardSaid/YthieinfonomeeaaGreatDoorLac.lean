/-
  What a tape's readings leave as it was; a title off the tape. Conditions: those typed in each theorem.
  The tape: words, pieces and lines of markup; walked. Printed by wip/s9/piece.py. Conditions: those typed in each theorem.
  A tape made new; a title off the tape is one of those listed. Conditions: those typed in each theorem.
-/
import Derived.Test.YthieinfonomeeaaGreatDoorLab
import Derived.Test.YthieinfonomeeaaGreatDoorAag

namespace Go.Proofs.YthieinfonomeeaaGreatDoor
open Go.RowKit Doc
set_option linter.unusedVariables false

theorem TP.keep {g : Nat} {w w' : World} (h : TP g w) (hk : ∀ k, k ≤ g → w'.heap[k]? = w.heap[k]?) : TP g w' := by
  obtain ⟨a, len, cap, k, zs, h1, h2, h3, h4⟩ := h
  exact ⟨a, len, cap, k, zs, (hk g (Nat.le_refl _)).trans h1, h2.keep (fun x i hx hp => World.cell?_of_block (w := w) (hk _ (by have := h4 x hx hp; rw [add_block]; omega))), h3, h4⟩
/-- from V on nothing but the tape has turned, and it is a tape still -/
structure TpS (g : Nat) (V W : World) : Prop where
  st : TStep g V W
  tp : TP g W
theorem TpS.refl {g : Nat} {V : World} (h : TP g V) : TpS g V V := ⟨TStep.refl _ _, h⟩
theorem TpS.size {g : Nat} {V W : World} (h : TpS g V W) : V.heap.size ≤ W.heap.size := h.st.below.size
theorem TpS.trans {g : Nat} {U V W : World} (h : TpS g U V) (k : TpS g V W) : TpS g U W := ⟨h.st.trans k.st, k.tp⟩
theorem TpS.on {g : Nat} {V W W' : World} (h : TpS g V W) (s : TStep g W W') (t : TP g W') : TpS g V W' := ⟨h.st.trans s, t⟩
theorem TpS.below {g : Nat} {V W W' : World} (h : TpS g V W) (b : Below W.heap.size W W') : TpS g V W' := ⟨h.st.trans (TStep.of_below b (Nat.le_of_lt h.tp.lt)), h.tp.below b⟩
theorem TpS.drew {g : Nat} {V W : World} (h : TpS g V W) : TpS g V W.drew := h.below (Below.refl _ _).drew
theorem TpS.new {g : Nat} {V W : World} (h : TpS g V W) (o : Obj) : TpS g V (W.alloc o) := h.below (below_new0 W o)
theorem TpS.put {g : Nat} {V W : World} (h : TpS g V W) {X : Nat} (hX : V.heap.size ≤ X) (hg : g < X) (i : Nat) (u : Value) : TpS g V (W.setCell ⟨X, i, none⟩ u) :=
  ⟨⟨h.st.below.setCell (p := ⟨X, i, none⟩) (Nat.le_of_lt hg) u, fun k h1 h2 => (Below.heap_setCell _ _ _ _ (show k ≠ X by omega)).trans (h.st.rest k h1 h2)⟩,
   h.tp.keep fun k hk => Below.heap_setCell _ _ _ _ (show k ≠ X by omega)⟩
theorem TpS.grown {g : Nat} {V W W' : World} (h : TpS g V W) {row : Option Nat} (k : W.grownBy W' row) (hr : ∀ j, row = some j → V.heap.size ≤ j ∧ g < j) : TpS g V W' :=
  ⟨⟨h.st.below.grown k (Nat.le_of_lt h.tp.lt) (fun j hj => Nat.le_of_lt (hr j hj).2), fun j h1 h2 => (k.block j (Nat.lt_of_lt_of_le h2 h.size) (fun e => by have := (hr j e.symm).1; omega)).trans (h.st.rest j h1 h2)⟩,
   h.tp.keep fun j hj => k.block j (by have := h.tp.lt; omega) (fun e => by have := (hr j e.symm).2; omega)⟩
theorem own_step {α : Type} {S : Shp α} {e : TypeId} {g B : Nat} {w w' : World} {v : Value} {L : α} (h : S.own e (fun _ => False) B w v L) (s : TStep g w w') (hg : g < B) : S.own e (fun _ => False) B w' v L := by
  have hl := h.lt
  obtain ⟨xs, h1, h2⟩ := h
  exact ⟨xs, own_on h1 (fun k hk => s.rest k (by have := (hl k hk).1; omega) (hl k hk).2), S.on (fun k hk hlt => ⟨hk, s.rest k (by rcases hk.1 with h | h; exact h.elim; omega) hlt⟩) h2⟩
theorem tNext (g n : Nat) (V W : World) (hn : 0 < n) (hn2 : n ≤ 1000) (h : TpS g V W) :
    Calls Tryz.prog 17 #[.pointer (some ⟨g, 0, none⟩), .int .i64 n] W fun e w' => ∃ r : Nat, e = .returned (.int .i64 r) ∧ r < n ∧ TpS g V w' ∧ TStep g W w' :=
  (tapeNext g n W hn hn2 h.tp).mono fun e w' ⟨r, h1, h2, h3, h4⟩ => ⟨r, h1, h2, h.on h3 h4, h3⟩
theorem tOf (g x : Nat) (l : List ByteArray) (V W : World) (h0 : 0 < l.length) (h1 : l.length ≤ 1000) (hz : (l.all fun t => decide (t.size ≤ 99)) = true) (hL : Strs W x l) (hx : x < W.heap.size) (hxg : x ≠ g) (h : TpS g V W) :
    Calls Tryz.prog 18 #[.pointer (some ⟨g, 0, none⟩), .slice (some ⟨x, 0, none⟩) l.length l.length] W fun e w' => ∃ t : ByteArray, e = .returned (.string t) ∧ t.size ≤ 99 ∧ TpS g V w' ∧ TStep g W w' :=
  (tapeOf g x l W h0 h1 hL hx hxg h.tp).mono fun e w' ⟨t, h1, h2, h3, h4⟩ => ⟨t, h1, by simpa using List.all_eq_true.1 hz t h2, h.on h3 h4, h3⟩
/-- .. of texts that have just been laid -/
theorem tOfNew (g : Nat) (l : List ByteArray) (V W : World) (ty : TypeId) (z : Nat) (e0 : W.heap.size = z) (h0 : 0 < l.length) (h1 : l.length ≤ 1000) (hz : (l.all fun t => decide (t.size ≤ 99)) = true) (h : TpS g V W) :
    Calls Tryz.prog 18 #[.pointer (some ⟨g, 0, none⟩), .slice (some ⟨z, 0, none⟩) l.length l.length] (W.alloc (.cells (l.map Value.string).toArray ty)) fun e w' => ∃ t : ByteArray, e = .returned (.string t) ∧ t.size ≤ 99 ∧ TpS g V w' ∧ TStep g W w' := by
  subst e0
  have hl := h.tp.lt
  exact (tOf g W.heap.size l V _ h0 h1 hz (Strs.made W ty l) (by simp) (by omega) (h.new _)).mono fun e w' ⟨t, h2, h3, h4, h5⟩ => ⟨t, h2, h3, h4, (TStep.of_below (below_new0 W _) (by omega)).trans h5⟩

def titlesB : List ByteArray := [⟨#[65]⟩, ⟨#[66]⟩, ⟨#[65, 47, 66]⟩, ⟨#[67]⟩, ⟨#[84]⟩, ⟨#[85, 47, 120]⟩, ⟨#[65, 47, 66, 47, 99]⟩, ⟨#[76, 111, 110, 103, 32, 110, 97, 109, 101]⟩, ⟨#[49]⟩, ⟨#[88]⟩]
set_option maxRecDepth 20000 in
set_option maxHeartbeats 2000000 in
/-- a title off the tape -/
theorem tTitle0 (g : Nat) (W : World) (h : TpS g W W) :
    Calls Tryz.prog 80 #[.pointer (some ⟨g, 0, none⟩)] W fun e w' => ∃ (s : Nat) (n : ByteArray), e = .returned (.agg #[.int .i64 s, .string n]) ∧ n.size ≤ 99 ∧ TpS g W w' := by
  have hg := h.tp.lt
  have h0 := h.new (.cells #[.int .i64 0, .string ⟨#[]⟩] 54)
  have k0 := Known.made W 54 #[.int .i64 0, .string ⟨#[]⟩]
  go_enter Tryz.func80, Tryz.ntmps80
  go_wp2_with fail
  refine (tNext g 6 W _ (by omega) (by omega) h0).mono ?_
  rintro e w1 ⟨r, rfl, hr, ts, st⟩
  have KX := k0.tstep st (by omega)
  have hz := ts.size
  have hO := tOfNew g titlesB W w1 9 _ rfl (by decide) (by decide) (by decide) ts
  clear h0 k0
  go_wp2_with fail
  refine hO.mono ?_
  rintro e w2 ⟨n, rfl, hn, ts, st2⟩
  have KX := KX.tstep st2 (by omega)
  have hz2 := ts.size
  have hXl := KX.lt
  have f0 := KX.free 0
  have f1 := KX.free 1
  have c0 := KX.cell 0
  have c1 := KX.cell 1
  clear hO
  go_wp2_with fail
  have K2 := (KX.put 0 (.int .i64 r)).put 1 (.string n)
  have c0 := K2.cell 0
  have c1 := K2.cell 1
  exact bodyPost_ret (v := .agg #[.int .i64 r, .string n]) (by simp [results, Tryz.results80, go_sem, c0, c1]) rfl
    ⟨r, n, rfl, hn, (ts.put (by omega) (by omega) _ _).put (by omega) (by omega) _ _⟩
theorem tTitle (g : Nat) (V W : World) (h : TpS g V W) :
    Calls Tryz.prog 80 #[.pointer (some ⟨g, 0, none⟩)] W fun e w' => ∃ (s : Nat) (n : ByteArray), e = .returned (.agg #[.int .i64 s, .string n]) ∧ n.size ≤ 99 ∧ TpS g V w' ∧ TStep g W w' :=
  (tTitle0 g W (TpS.refl h.tp)).mono fun e w' ⟨s, n, h1, h2, h3⟩ => ⟨s, n, h1, h2, h.trans h3, h3.st⟩
end Go.Proofs.YthieinfonomeeaaGreatDoor

namespace Go.Proofs.YthieinfonomeeaaGreatDoor
open Go.RowKit
set_option linter.unusedVariables false
set_option linter.unusedSimpArgs false

def wordsB : List ByteArray := [⟨#[97]⟩, ⟨#[120, 32, 121]⟩, ⟨#[49, 50]⟩, ⟨#[]⟩, ⟨#[98]⟩, ⟨#[48]⟩, ⟨#[45, 51]⟩, ⟨#[65, 98]⟩, ⟨#[32]⟩, ⟨#[122]⟩]
def pieB0 : List ByteArray := [⟨#[84]⟩, ⟨#[85, 47, 120]⟩, ⟨#[58, 65]⟩, ⟨#[58, 66]⟩, ⟨#[58, 67]⟩, ⟨#[47, 120]⟩, ⟨#[65]⟩, ⟨#[66]⟩, ⟨#[58, 84, 97, 108, 107, 58, 65]⟩, ⟨#[88]⟩]
def pieB1 : List ByteArray := [⟨#[107]⟩, ⟨#[49]⟩, ⟨#[110]⟩]
def pieB2 : List ByteArray := [⟨#[84]⟩, ⟨#[65]⟩, ⟨#[66]⟩, ⟨#[58, 65]⟩, ⟨#[58, 65, 47, 66]⟩]
def pieB3 : List ByteArray := [⟨#[49]⟩, ⟨#[107]⟩, ⟨#[110]⟩, ⟨#[105]⟩, ⟨#[120]⟩]
def pieB4 : List ByteArray := [⟨#[]⟩, ⟨#[124]⟩, ⟨#[124, 100]⟩]
def pieB5 : List ByteArray := [⟨#[122, 61, 50]⟩, ⟨#[108, 97, 115, 116]⟩]
def pieB6 : List ByteArray := [⟨#[65]⟩, ⟨#[66]⟩, ⟨#[84, 101, 109, 112, 108, 97, 116, 101, 58, 84]⟩, ⟨#[67]⟩, ⟨#[91]⟩, ⟨#[84, 97, 108, 107, 58, 65]⟩]
def pieB7 : List ByteArray := [⟨#[49, 44, 50, 44, 51]⟩, ⟨#[97, 44, 98]⟩, ⟨#[]⟩, ⟨#[120]⟩]
def pieB8 : List ByteArray := [⟨#[89]⟩, ⟨#[70, 32, 89]⟩, ⟨#[106, 46, 110, 46]⟩, ⟨#[72]⟩, ⟨#[72, 58, 105]⟩, ⟨#[78]⟩, ⟨#[92, 89]⟩]
def pieB9 : List ByteArray := [⟨#[88]⟩, ⟨#[65]⟩, ⟨#[66]⟩]
def pieB10 : List ByteArray := [⟨#[88]⟩, ⟨#[65]⟩, ⟨#[]⟩]
def pieB11 : List ByteArray := [⟨#[114, 101, 97, 100]⟩, ⟨#[101, 100, 105, 116]⟩, ⟨#[120]⟩]
def pieB12 : List ByteArray := [⟨#[65]⟩, ⟨#[66]⟩, ⟨#[84, 97, 108, 107, 58, 65]⟩]
def pieB13 : List ByteArray := [⟨#[65]⟩, ⟨#[66]⟩, ⟨#[67]⟩]
def pieB14 : List ByteArray := [⟨#[65]⟩, ⟨#[66]⟩, ⟨#[84, 97, 108, 107, 58, 65]⟩, ⟨#[67, 124, 99]⟩, ⟨#[67, 97, 116, 101, 103, 111, 114, 121, 58, 88]⟩, ⟨#[67, 97, 116, 101, 103, 111, 114, 121, 58, 88, 124, 115]⟩, ⟨#[58, 67, 97, 116, 101, 103, 111, 114, 121, 58, 88]⟩, ⟨#[65, 35, 115]⟩, ⟨#[35, 115]⟩, ⟨#[91]⟩, ⟨#[67, 97, 116, 101, 103, 111, 114, 121, 58, 65]⟩]
def pieB15 : List ByteArray := [⟨#[]⟩, ⟨#[32, 110, 97, 109, 101, 61, 110]⟩, ⟨#[32, 110, 97, 109, 101, 61, 109]⟩]
def pieB16 : List ByteArray := [⟨#[123, 123, 84, 125, 125]⟩, ⟨#[39, 39]⟩, ⟨#[91, 91, 65, 93, 93]⟩, ⟨#[97]⟩]
def pieB17 : List ByteArray := [⟨#[60, 110, 111, 105, 110, 99, 108, 117, 100, 101, 62]⟩, ⟨#[60, 105, 110, 99, 108, 117, 100, 101, 111, 110, 108, 121, 62]⟩, ⟨#[60, 111, 110, 108, 121, 105, 110, 99, 108, 117, 100, 101, 62]⟩]
def pieB18 : List ByteArray := [⟨#[60, 47, 110, 111, 105, 110, 99, 108, 117, 100, 101, 62]⟩, ⟨#[60, 47, 105, 110, 99, 108, 117, 100, 101, 111, 110, 108, 121, 62]⟩, ⟨#[60, 47, 111, 110, 108, 121, 105, 110, 99, 108, 117, 100, 101, 62]⟩]
def pieB19 : List ByteArray := [⟨#[60, 33, 45, 45, 99, 45, 45, 62]⟩, ⟨#[60, 114, 101, 102, 32, 110, 97, 109, 101, 61, 110, 47, 62]⟩, ⟨#[60, 98, 114, 62]⟩, ⟨#[38, 108, 116, 59]⟩, ⟨#[38, 35, 57, 49, 59]⟩, ⟨#[123, 123]⟩, ⟨#[125, 125]⟩, ⟨#[91, 91]⟩, ⟨#[93, 93]⟩, ⟨#[124]⟩, ⟨#[61]⟩]
theorem bsz (a : Array UInt8) : (⟨a⟩ : ByteArray).size = a.size := rfl
/-- which one of the texts that have just been laid -/
theorem tOfMem (g : Nat) (l : List ByteArray) (V W : World) (ty : TypeId) (z : Nat) (e0 : W.heap.size = z) (h0 : 0 < l.length) (h1 : l.length ≤ 1000) (h : TpS g V W) :
    Calls Tryz.prog 18 #[.pointer (some ⟨g, 0, none⟩), .slice (some ⟨z, 0, none⟩) l.length l.length] (W.alloc (.cells (l.map Value.string).toArray ty)) fun e w' => ∃ t : ByteArray, e = .returned (.string t) ∧ t ∈ l ∧ TpS g V w' ∧ TStep g W w' := by
  subst e0
  have hl := h.tp.lt
  exact (tapeOf g W.heap.size l _ h0 h1 (Strs.made W ty l) (by simp) (by omega) (h.new _).tp).mono fun e w' ⟨t, h2, h3, h4, h5⟩ => ⟨t, h2, h3, (h.new _).on h4 h5, (TStep.of_below (below_new0 W _) (by omega)).trans h4⟩
end Go.Proofs.YthieinfonomeeaaGreatDoor

namespace Go.Proofs.YthieinfonomeeaaGreatDoor
open Go.RowKit Doc
set_option linter.unusedVariables false

theorem TP.made {w : World} {a : Option Addr} {len cap : Nat} {zs : List Int} (h : IsInts w a len cap zs) : TP w.heap.size (w.alloc (.cells #[.slice a len cap, .int .i64 0] 66)) := by
  have hb : ∀ x, a = some x → 0 < cap → x.block < w.heap.size := by
    intro x hx hl
    rcases h with ⟨_, _, h, _⟩ | ⟨y, hy, _, _, h7, h8, _⟩
    · omega
    · rw [hx] at hy
      obtain rfl := Option.some.inj hy
      have := World.block_lt_of_cell? w _ (h8 0 (by omega))
      rwa [add_block] at this
  exact ⟨a, len, cap, 0, zs, Known.made w _ _, h.keep (fun x i hx hp => (below_new0 w _).cell (p := x.add i) (by rw [add_block]; exact hb x hx hp)), by omega, hb⟩
theorem new_any (a : Option Addr) (len cap : Nat) (w : World) :
    Calls Tryz.prog 16 #[.slice a len cap] w fun e w' => e = .returned (.pointer (some ⟨w.heap.size, 0, none⟩)) ∧ w.alloc (.cells #[.slice a len cap, .int .i64 0] 66) = w' := by
  go_enter Tryz.func16, Tryz.ntmps16
  go_wp2_with fail
  go_ret
  exact ⟨rfl, rfl⟩
/-- a tape made new -/
theorem newT (a : Option Addr) (len cap : Nat) (zs : List Int) (w : World) (hz : IsInts w a len cap zs) :
    Calls Tryz.prog 16 #[.slice a len cap] w fun e w' => ∃ g, e = .returned (.pointer (some ⟨g, 0, none⟩)) ∧ w.heap.size ≤ g ∧ Below w.heap.size w w' ∧ TP g w' :=
  (new_any a len cap w).mono fun e w' ⟨h1, h2⟩ => ⟨_, h1, Nat.le_refl _, by rw [← h2]; exact below_new0 _ _, by rw [← h2]; exact TP.made hz⟩
set_option maxRecDepth 20000 in
set_option maxHeartbeats 2000000 in
/-- a title off the tape -/
theorem tTitleIn (g : Nat) (W : World) (h : TpS g W W) :
    Calls Tryz.prog 80 #[.pointer (some ⟨g, 0, none⟩)] W fun e w' => ∃ (s : Nat) (n : ByteArray), e = .returned (.agg #[.int .i64 s, .string n]) ∧ s < 6 ∧ n ∈ titlesB ∧ TpS g W w' := by
  have hg := h.tp.lt
  have h0 := h.new (.cells #[.int .i64 0, .string ⟨#[]⟩] 54)
  have k0 := Known.made W 54 #[.int .i64 0, .string ⟨#[]⟩]
  go_enter Tryz.func80, Tryz.ntmps80
  go_wp2_with fail
  refine (tNext g 6 W _ (by omega) (by omega) h0).mono ?_
  rintro e w1 ⟨r, rfl, hr, ts, st⟩
  have KX := k0.tstep st (by omega)
  have hz := ts.size
  have hO := tOfMem g titlesB W w1 9 _ rfl (by decide) (by decide) ts
  clear h0 k0
  go_wp2_with fail
  refine hO.mono ?_
  rintro e w2 ⟨n, rfl, hn, ts, st2⟩
  have KX := KX.tstep st2 (by omega)
  have hz2 := ts.size
  have hXl := KX.lt
  have f0 := KX.free 0
  have f1 := KX.free 1
  have c0 := KX.cell 0
  have c1 := KX.cell 1
  clear hO
  go_wp2_with fail
  have K2 := (KX.put 0 (.int .i64 r)).put 1 (.string n)
  have c0 := K2.cell 0
  have c1 := K2.cell 1
  exact bodyPost_ret (v := .agg #[.int .i64 r, .string n]) (by simp [results, Tryz.results80, go_sem, c0, c1]) rfl
    ⟨r, n, rfl, hr, hn, (ts.put (by omega) (by omega) _ _).put (by omega) (by omega) _ _⟩
theorem IsInts.below {W W' : World} {a : Option Addr} {len cap : Nat} {zs : List Int} (h : IsInts W a len cap zs) (hb : Below W.heap.size W W') : IsInts W' a len cap zs := by
  have hc : ∀ x, a = some x → 0 < cap → x.block < W.heap.size := by
    intro x hx hl
    rcases h with ⟨_, _, h, _⟩ | ⟨y, hy, _, _, h7, h8, _⟩
    · omega
    · rw [hx] at hy
      obtain rfl := Option.some.inj hy
      have := World.block_lt_of_cell? W _ (h8 0 (by omega))
      rwa [add_block] at this
  exact h.keep fun x i hx hp => hb.cell (p := x.add i) (by rw [add_block]; exact hc x hx hp)
end Go.Proofs.YthieinfonomeeaaGreatDoor
