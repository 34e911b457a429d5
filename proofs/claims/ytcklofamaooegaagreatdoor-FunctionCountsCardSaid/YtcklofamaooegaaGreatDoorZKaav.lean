/-
  The claim's own texts, packed. Conditions: those typed in each theorem.
-/
import Derived.Test.YtcklofamaooegaaGreatDoorZKaau
import Derived.Test.YtcklofamaooegaaGreatDoorZKaaf
set_option maxHeartbeats 4000000
set_option maxRecDepth 10000
set_option linter.unusedVariables false
namespace Go.Proofs.YtcklofamaooegaaGreatDoor
open Go.RowKit
variable {N : Nat}
def RS (N g : Nat) (w : World) (ts : List ByteArray) : Prop :=
 ∃ (p : Option Addr) (c : Nat) (l : List ByteArray) (i : Nat), Known w g 141 #[.slice p l.length c, .int .i64 i, .bool false] ∧ ((l.length ≤ 1000 ∧ l.length = N) ∧ ∀ t ∈ l, 0 < t.size) ∧ i ≤ l.length ∧ l.drop i = ts
  ∧ (l = [] ∨ ∃ b o, p = some ⟨b, o, none⟩ ∧ b < g ∧ ∀ j (h : j < l.length), w.cell? ⟨b, o + j, none⟩ = some (.string l[j]))
def RB (g : Nat) (w : World) : Prop :=
 ∃ (p : Option Addr) (n c i : Nat), Known w g 141 #[.slice p n c, .int .i64 i, .bool true]
theorem RS.lt {g : Nat} {w : World} {ts : List ByteArray} (h : RS N g w ts) : g < w.heap.size := by
 obtain ⟨p, c, l, i, h, -⟩ := h; exact h.lt
theorem RB.lt {g : Nat} {w : World} (h : RB g w) : g < w.heap.size := by
 obtain ⟨p, n, c, i, h⟩ := h; exact h.lt
theorem RS.below {g : Nat} {w w' : World} {ts : List ByteArray} (h : RS N g w ts) (s : Below w.heap.size w w') : RS N g w' ts := by
 obtain ⟨p, c, l, i, h1, h2, h3, h4, h5⟩ := h
 refine ⟨p, c, l, i, h1.on s, h2, h3, h4, ?_⟩
 rcases h5 with h5 | ⟨b, o, h6, h7, h8⟩
 ·exact .inl h5
 ·exact .inr ⟨b, o, h6, h7, fun j hj => (s.cell (p := ⟨b, o + j, none⟩) (by have := h1.lt; show b < _; omega)).trans (h8 j hj)⟩
theorem RB.below {g : Nat} {w w' : World} (h : RB g w) (s : Below w.heap.size w w') : RB g w' := by
 obtain ⟨p, n, c, i, h⟩ := h
 exact ⟨p, n, c, i, h.on s⟩
theorem RS.keep {g : Nat} {w w' : World} {ts : List ByteArray} (h : RS N g w ts) (s : Below (g + 1) w w') : RS N g w' ts := by
 obtain ⟨p, c, l, i, h1, h2, h3, h4, h5⟩ := h
 refine ⟨p, c, l, i, (s.block g (by omega)).trans h1, h2, h3, h4, ?_⟩
 rcases h5 with h5 | ⟨b, o, h6, h7, h8⟩
 ·exact .inl h5
 ·exact .inr ⟨b, o, h6, h7, fun j hj => (s.cell (p := ⟨b, o + j, none⟩) (by show b < _; omega)).trans (h8 j hj)⟩
theorem RB.keep {g : Nat} {w w' : World} (h : RB g w) (s : Below (g + 1) w w') : RB g w' := by
 obtain ⟨p, n, c, i, h⟩ := h
 exact ⟨p, n, c, i, (s.block g (by omega)).trans h⟩
theorem RB.again {g : Nat} {w : World} (h : RB g w) : w.frozen? ⟨g, 2, none⟩ = false ∧ RB g (w.setCell ⟨g, 2, none⟩ (.bool true)) := by
 obtain ⟨p, n, c, i, h⟩ := h
 exact ⟨h.free 2, p, n, c, i, h.put 2 _⟩
theorem RS.len {g : Nat} {w : World} {ts : List ByteArray} (h : RS N g w ts) : ts.length ≤ 1000 := by
 obtain ⟨p, c, l, i, -, ⟨⟨h, -⟩, -⟩, -, rfl, -⟩ := h
 simp; omega
theorem RS.far {g : Nat} {w : World} {ts : List ByteArray} (h : RS N g w ts) : ∃ i : Nat, w.cell? ⟨g, 1, none⟩ = some (.int .i64 i) ∧ w.cell? ⟨g, 2, none⟩ = some (.bool false) ∧ i + ts.length = N := by
 obtain ⟨p, c, l, i, h1, h2, h3, rfl, h5⟩ := h
 exact ⟨i, h1.cell 1, h1.cell 2, by simp; omega⟩
theorem RS.nil {g : Nat} {w : World} (h : RS N g w []) : ∃ (p : Option Addr) (n c : Nat), n ≤ 1000 ∧ w.cell? ⟨g, 0, none⟩ = some (.slice p n c) ∧ w.cell? ⟨g, 1, none⟩ = some (.int .i64 n) ∧ w.cell? ⟨g, 2, none⟩ = some (.bool false) ∧ w.frozen? ⟨g, 2, none⟩ = false ∧ RB g (w.setCell ⟨g, 2, none⟩ (.bool true)) := by
 obtain ⟨p, c, l, i, h1, h2, h3, h4, h5⟩ := h
 have : i = l.length := by have := List.drop_eq_nil_iff.1 h4; omega
 subst this
 exact ⟨p, l.length, c, h2.1.1, h1.cell 0, h1.cell 1, h1.cell 2, h1.free 2, p, l.length, c, l.length, h1.put 2 _⟩
theorem RS.bad {g : Nat} {w : World} {ts : List ByteArray} (h : RS N g w ts) : w.cell? ⟨g, 2, none⟩ = some (.bool false) ∧ w.frozen? ⟨g, 2, none⟩ = false ∧ RB g (w.setCell ⟨g, 2, none⟩ (.bool true)) := by
 obtain ⟨p, c, l, i, h1, h2, h3, h4, h5⟩ := h
 exact ⟨h1.cell 2, h1.free 2, p, l.length, c, i, h1.put 2 _⟩
theorem RB.bad {g : Nat} {w : World} (h : RB g w) : w.cell? ⟨g, 2, none⟩ = some (.bool true) := by
 obtain ⟨p, n, c, i, h⟩ := h
 exact h.cell 2
theorem RS.cons {g : Nat} {w : World} {t : ByteArray} {r : List ByteArray} (h : RS N g w (t :: r)) :
  ∃ (b o n c i : Nat), i < n ∧ n ≤ 1000 ∧ 0 < t.size ∧ b < g ∧ w.cell? ⟨g, 0, none⟩ = some (.slice (some ⟨b, o, none⟩) n c) ∧ w.cell? ⟨g, 1, none⟩ = some (.int .i64 i) ∧ w.cell? ⟨g, 2, none⟩ = some (.bool false)
   ∧ w.frozen? ⟨g, 1, none⟩ = false ∧ w.cell? ⟨b, o + i, none⟩ = some (.string t) ∧ RS N g (w.setCell ⟨g, 1, none⟩ (.int .i64 ((i : Int) + 1))) r := by
 obtain ⟨p, c, l, i, h1, h2, h3, h4, h5⟩ := h
 have hi : i < l.length := by
  have := congrArg List.length h4
  simp at this
  omega
 rcases h5 with h5 | ⟨b, o, rfl, hb, h5⟩
 ·subst h5; simp at hi
 ·have e := List.drop_eq_getElem_cons hi
  rw [h4] at e
  obtain ⟨rfl, rfl⟩ := List.cons.inj e
  refine ⟨b, o, l.length, c, i, hi, h2.1.1, h2.2 _ (List.getElem_mem hi), hb, h1.cell 0, h1.cell 1, h1.cell 2, h1.free 1, h5 i hi, some ⟨b, o, none⟩, c, l, i + 1, h1.put 1 _, h2, by omega, rfl, .inr ⟨b, o, rfl, hb, fun j hj => ?_⟩⟩
  rw [((Below.refl g w).setCell (p := ⟨g, 1, none⟩) (Nat.le_refl _) _).cell (p := ⟨b, o + j, none⟩) hb]
  exact h5 j hj
theorem Strs.below {x : Nat} {w w' : World} {l : List ByteArray} (h : Strs w x l) (s : Below w.heap.size w w') (hl : x < w.heap.size) : Strs w' x l :=
 fun i hi => (s.cell (p := ⟨x, i, none⟩) hl).trans (h i hi)
theorem is_bad (g : Nat) (v : Value) (w : World) (h : RB g w) :
  Calls Tryz.prog 199 #[.pointer (some ⟨g, 0, none⟩), v] w fun e w' => e = .returned (.bool false) ∧ Below w.heap.size w w' := by
 have c2 := h.bad
 have hg := h.lt
 clear h
 go_enter Tryz.func199, Tryz.ntmps199
 go_wp2_with fail
 refine wp_region_gr (by kernel_rfl) (by kernel_rfl) ?_
 repeat (go_big_quiet_step (fail))
 refine wpQuiet_nil ?_
 intro _ hw'; obtain ⟨w5, hw''⟩ := hw'; subst hw''
 go_wp2_with fail
 go_ret
 exact ⟨rfl, gr_below _ _⟩
theorem is_nil (g : Nat) (v : Value) (w : World) (h : RS N g w []) :
  Calls Tryz.prog 199 #[.pointer (some ⟨g, 0, none⟩), v] w fun e w' => e = .returned (.bool false) ∧ Below w.heap.size w w' := by
 have hg := h.lt
 obtain ⟨p, n, c, hn, c0, c1, c2, -, -⟩ := h.nil
 have gg : decide ((n : Int) < (n : Int)) = false := by simp
 clear h
 go_enter Tryz.func199, Tryz.ntmps199
 go_wp2_with fail
 refine wp_region_gr (by kernel_rfl) (by kernel_rfl) ?_
 repeat (go_big_quiet_step (fail))
 refine wpQuiet_nil ?_
 intro _ hw'; obtain ⟨w5, hw''⟩ := hw'; subst hw''
 go_wp2_with fail
 go_ret
 exact ⟨rfl, gr_below _ _⟩
theorem is_cons (g x : Nat) (l : List ByteArray) (t : ByteArray) (r : List ByteArray) (w : World) (hl : l.length ≤ 10) (hL : Strs w x l) (hx : x < w.heap.size) (h : RS N g w (t :: r)) :
  Calls Tryz.prog 199 #[.pointer (some ⟨g, 0, none⟩), .slice (some ⟨x, 0, none⟩) l.length l.length] w fun e w' => e = .returned (.bool (Form.mem t l)) ∧ Below w.heap.size w w' := by
 have hg := h.lt
 obtain ⟨b, o, n, c, i, hin, hn, hts, hb, c0, c1, c2, -, ct, -⟩ := h.cons
 have gg : decide ((i : Int) < (n : Int)) = true := by simpa using hin
 have hbl : b < w.heap.size := by omega
 have hH := fun w5 => has_any x l t (gr w w5) hl (hL.below (gr_below w w5) hx)
 generalize Form.mem t l = m at *
 generalize l.length = q at *
 clear h hL
 go_enter Tryz.func199, Tryz.ntmps199
 go_wp2_with fail
 refine wp_region_gr (by kernel_rfl) (by kernel_rfl) ?_
 repeat (go_big_quiet_step (first | (go_at_call 235; with_reducible exact gr_same (hH _))))
 refine wpQuiet_nil ?_
 intro _ hw'; obtain ⟨w5, hw''⟩ := hw'; subst hw''
 go_wp2_with fail
 go_ret
 exact ⟨rfl, gr_below _ _⟩
theorem is_any (g x : Nat) (l ts : List ByteArray) (w : World) (hl : l.length ≤ 10) (hL : Strs w x l) (hx : x < w.heap.size) (h : RS N g w ts) :
  Calls Tryz.prog 199 #[.pointer (some ⟨g, 0, none⟩), .slice (some ⟨x, 0, none⟩) l.length l.length] w fun e w' => e = .returned (.bool (Form.take l ts).isSome) ∧ Below w.heap.size w w' := by
 cases ts with
 | nil => exact is_nil g _ w h
 | cons t r =>
   have := is_cons g x l t r w hl hL hx h
   have e : (Form.take l (t :: r)).isSome = Form.mem t l := by
    rw [Form.take]
    cases Form.mem t l <;> rfl
   rw [e]
   exact this
theorem takeRef_any (g : Nat) (t : ByteArray) (r : List ByteArray) (w : World) (h : RS N g w (t :: r)) :
  Calls Tryz.prog 200 #[.pointer (some ⟨g, 0, none⟩)] w fun e w' => e = .returned (.string t) ∧ Step g w w' ∧ RS N g w' r := by
 have hg := h.lt
 obtain ⟨b, o, n, c, i, hin, hn, hts, hb, c0, c1, c2, f1, ct, hr⟩ := h.cons
 have hbl : b < w.heap.size := by omega
 have hbg : ¬ b = g := by omega
 have hgb : ¬ g = b := by omega
 have HR := Lib.hid hr
 clear h hr
 go_enter Tryz.func200, Tryz.ntmps200
 go_wp2_with fail
 refine wp_region_gr (by kernel_rfl) (by kernel_rfl) ?_
 repeat (go_big_quiet_step (fail))
 refine wpQuiet_nil ?_
 intro _ hw'; obtain ⟨w5, hw''⟩ := hw'; subst hw''
 go_wp2_with fail
 go_ret
 exact ⟨rfl, ((Step.refl g w).put 1 _).trans (Step.of_below (gr_below _ _) (by simp; omega)), HR.out.below (gr_below _ _)⟩
variable {N : Nat}
def NL (q : Nat → Prop) (w : World) : Form.Tree → ByteArray → ByteArray → Option Addr → Nat → Prop
 | .num t, o, s, p, n => o = ⟨#[]⟩ ∧ s = t ∧ p = none ∧ n = 0
 | .un op a, o, s, p, n => o = op ∧ s = ⟨#[]⟩ ∧ n = 1 ∧ ∃ i, p = some ⟨i, 0, none⟩ ∧ q i ∧ ∃ o1 s1 p1 n1, Known w i 108 #[.string o1, .string s1, .slice p1 n1 n1] ∧ NL q w a o1 s1 p1 n1
 | .bin op a b, o, s, p, n => o = op ∧ s = ⟨#[]⟩ ∧ n = 2 ∧ ∃ i, p = some ⟨i, 0, none⟩ ∧ q i ∧ ∃ o1 s1 p1 n1 o2 s2 p2 n2, Known w i 108 #[.string o1, .string s1, .slice p1 n1 n1, .string o2, .string s2, .slice p2 n2 n2]
   ∧ NL q w a o1 s1 p1 n1 ∧ NL q w b o2 s2 p2 n2
theorem NL.on {q q' : Nat → Prop} {w w' : World} (hq : ∀ i, q i → i < w.heap.size → q' i ∧ w'.heap[i]? = w.heap[i]?) : ∀ {T : Form.Tree} {o t : ByteArray} {p : Option Addr} {n : Nat}, NL q w T o t p n → NL q' w' T o t p n := by
 intro T
 induction T with
 | num t => intro o u p n h; exact h
 | un op a iha =>
   rintro o u p n ⟨h1, h2, h3, i, h4, h5, o1, s1, p1, n1, h6, h7⟩
   have := hq i h5 h6.lt
   exact ⟨h1, h2, h3, i, h4, this.1, o1, s1, p1, n1, this.2.trans h6, iha h7⟩
 | bin op a b iha ihb =>
   rintro o u p n ⟨h1, h2, h3, i, h4, h5, o1, s1, p1, n1, o2, s2, p2, n2, h6, h7, h8⟩
   have := hq i h5 h6.lt
   exact ⟨h1, h2, h3, i, h4, this.1, o1, s1, p1, n1, o2, s2, p2, n2, this.2.trans h6, iha h7, ihb h8⟩
theorem NL.step {q : Nat → Prop} {g : Nat} {w w' : World} {T : Form.Tree} {o t : ByteArray} {p : Option Addr} {n : Nat} (h : NL q w T o t p n) (s : Step g w w') (hg : ∀ i, q i → i ≠ g) : NL q w' T o t p n :=
 h.on fun i hi hl => ⟨hi, by
  have := hg i hi
  by_cases e : i < g
  ·exact s.below.block i e
  ·exact s.rest i (by omega) hl⟩
theorem NL.put {q : Nat → Prop} {g j : Nat} {v : Value} {w : World} {T : Form.Tree} {o t : ByteArray} {p : Option Addr} {n : Nat} (h : NL q w T o t p n) (hg : ∀ i, q i → i ≠ g) : NL q (w.setCell ⟨g, j, none⟩ v) T o t p n :=
 h.on fun i hi _ => ⟨hi, Below.heap_setCell _ _ _ _ (hg i hi)⟩
theorem NL.alloc {q : Nat → Prop} {w : World} {T : Form.Tree} {o t : ByteArray} {p : Option Addr} {n : Nat} (h : NL q w T o t p n) (b : Obj) : NL q (w.alloc b) T o t p n :=
 h.on fun i hi hl => ⟨hi, (below_new0 w b).block i hl⟩
theorem NL.mono {q q' : Nat → Prop} {w : World} {T : Form.Tree} {o t : ByteArray} {p : Option Addr} {n : Nat} (h : NL q w T o t p n) (hq : ∀ i, q i → q' i) : NL q' w T o t p n :=
 h.on fun i hi _ => ⟨hq i hi, rfl⟩
theorem NL.un {q : Nat → Prop} {i : Nat} {w : World} {op : ByteArray} {a : Form.Tree} {o1 s1 : ByteArray} {p1 : Option Addr} {n1 : Nat} (hi : q i) (K : Known w i 108 #[.string o1, .string s1, .slice p1 n1 n1]) (h : NL q w a o1 s1 p1 n1) :
  NL q w (.un op a) op ⟨#[]⟩ (some ⟨i, 0, none⟩) 1 := ⟨rfl, rfl, rfl, i, rfl, hi, o1, s1, p1, n1, K, h⟩
theorem NL.bin {q : Nat → Prop} {i : Nat} {w : World} {op : ByteArray} {a b : Form.Tree} {o1 s1 o2 s2 : ByteArray} {p1 p2 : Option Addr} {n1 n2 : Nat} (hi : q i) (K : Known w i 108 #[.string o1, .string s1, .slice p1 n1 n1, .string o2, .string s2, .slice p2 n2 n2])
  (h : NL q w a o1 s1 p1 n1) (k : NL q w b o2 s2 p2 n2) : NL q w (.bin op a b) op ⟨#[]⟩ (some ⟨i, 0, none⟩) 2 := ⟨rfl, rfl, rfl, i, rfl, hi, o1, s1, p1, n1, o2, s2, p2, n2, K, h, k⟩
theorem Step.far {g : Nat} {a w : World} (h : Step g a w) {p : Addr} (hp : a.heap.size ≤ p.block) (hg : g ≤ a.heap.size) (u : Value) : Step g a (w.setCell p u) :=
 ⟨h.below.setCell (by omega) u, fun k h1 h2 => (Below.heap_setCell w p u k (by omega)).trans (h.rest k h1 h2)⟩
theorem calls_at {P : Program} {f : FuncId} {args : Array Value} {w : World} {R : Ending → World → Prop} (h : ∀ W, W = w → Calls P f args W R) : Calls P f args w R := h w rfl
theorem Strs.alloc {x : Nat} {w : World} {l : List ByteArray} (h : Strs w x l) (hl : x < w.heap.size) (o : Obj) : Strs (w.alloc o) x l := h.below (below_new0 w o) hl
theorem Strs.far {x : Nat} {w : World} {l : List ByteArray} (h : Strs w x l) {p : Addr} (hp : x ≠ p.block) (u : Value) : Strs (w.setCell p u) x l :=
 fun i hi => (World.cell?_of_block (w := w) (Below.heap_setCell w p u x hp)).trans (h i hi)
def Ans (N g : Nat) (w : World) (x : Form.Res) (e : Ending) (w' : World) : Prop :=
 ∃ o s p n, e = .returned (.agg #[.string o, .string s, .slice p n n]) ∧ Step g w w' ∧ (x.bad = false → NL (fun i => w.heap.size ≤ i) w' x.T o s p n ∧ RS N g w' x.rest) ∧ (x.bad = true → RB g w')
def Lev (N f n : Nat) : Prop := ∀ (g : Nat) (ts : List ByteArray) (r : Form.Res) (w : World), Form.P f (.lv n) ts false = some r → ts.length ≤ 1000 → RS N g w ts →
 Calls Tryz.prog 142 #[.pointer (some ⟨g, 0, none⟩), .int .i64 n] w (Ans N g w r)
theorem loop_bad {f n : Nat} {a : Form.Tree} {ts : List ByteArray} {r : Form.Res} (h : Form.P f (.loop n a) ts true = some r) : r.bad = true := by
 cases f with
 | zero => simp [Form.P] at h
 | succ f =>
   rw [Form.P] at h
   split at h
   ·simp only [Option.some.injEq] at h; subst h; rfl
   ·simp only [if_true, Option.some.injEq] at h; subst h; rfl
end Go.Proofs.YtcklofamaooegaaGreatDoor
