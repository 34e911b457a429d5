/-
  How a formula's parser and its trees lie in memory. Conditions: those typed in each theorem.
-/
import Derived.Test.YtlkfnpmcihfjmaaDoorBase
import Derived.Test.YtlkfnpmcihfjmaaDoorForm
import Derived.Deep.LoopGhost
namespace Go.Proofs.YtlkfnpmcihfjmaaDoor
open Go.RowKit
set_option linter.unusedVariables false

/-- of the old blocks none but g has turned -/
structure Step (g : Nat) (w w' : World) : Prop where
  below : Below g w w'
  rest : ∀ k, g < k → k < w.heap.size → w'.heap[k]? = w.heap[k]?
theorem Step.refl (g : Nat) (w : World) : Step g w w := ⟨Below.refl _ _, fun _ _ _ => rfl⟩
theorem Step.trans {g : Nat} {a b c : World} (h : Step g a b) (k : Step g b c) : Step g a c :=
  ⟨h.below.trans k.below, fun i h1 h2 => (k.rest i h1 (Nat.lt_of_lt_of_le h2 h.below.size)).trans (h.rest i h1 h2)⟩
theorem Step.of_below {g : Nat} {w w' : World} (h : Below w.heap.size w w') (hg : g ≤ w.heap.size) : Step g w w' := ⟨h.mono hg, fun k _ h2 => h.block k h2⟩
theorem Step.alloc {g : Nat} {a w : World} (h : Step g a w) (hg : g ≤ w.heap.size) (o : Obj) : Step g a (w.alloc o) := h.trans (Step.of_below (below_new0 w o) hg)
theorem Step.drew {g : Nat} {a w : World} (h : Step g a w) : Step g a w.drew := ⟨h.below.drew, h.rest⟩
theorem Step.put {g : Nat} {a w : World} (h : Step g a w) (i : Nat) (u : Value) : Step g a (w.setCell ⟨g, i, none⟩ u) :=
  h.trans ⟨(Below.refl g w).setCell (p := ⟨g, i, none⟩) (Nat.le_refl _) u, fun k h1 h2 => Below.heap_setCell _ _ _ _ (show k ≠ g by omega)⟩
theorem Known.step {g h : Nat} {t : TypeId} {cs : Array Value} {w w' : World} (k : Known w h t cs) (s : Step g w w') (hg : h ≠ g) : Known w' h t cs := by
  have hl := k.lt
  by_cases e : h < g
  · exact (s.below.block h e).trans k
  · exact (s.rest h (by omega) hl).trans k

/-- a tree in the blocks behind g -/
def Lay (g : Nat) (w : World) : Form.Tree → Nat → Prop
  | .num t, h => g < h ∧ Known w h 78 #[.string ⟨#[]⟩, .string t, .pointer none, .pointer none]
  | .un op a, h => g < h ∧ ∃ i, Known w h 78 #[.string op, .string ⟨#[]⟩, .pointer (some ⟨i, 0, none⟩), .pointer none] ∧ Lay g w a i
  | .bin op a b, h => g < h ∧ ∃ i j, Known w h 78 #[.string op, .string ⟨#[]⟩, .pointer (some ⟨i, 0, none⟩), .pointer (some ⟨j, 0, none⟩)] ∧ Lay g w a i ∧ Lay g w b j
theorem Lay.step {g : Nat} {w w' : World} (s : Step g w w') : ∀ {T : Form.Tree} {h : Nat}, Lay g w T h → Lay g w' T h := by
  intro T
  induction T with
  | num t => rintro h ⟨h1, h2⟩; exact ⟨h1, h2.step s (by omega)⟩
  | un op a iha => rintro h ⟨h1, i, h2, h3⟩; exact ⟨h1, i, h2.step s (by omega), iha h3⟩
  | bin op a b iha ihb => rintro h ⟨h1, i, j, h2, h3, h4⟩; exact ⟨h1, i, j, h2.step s (by omega), iha h3, ihb h4⟩

/-- the tokens that are still to be read, in a block before g -/
def Toks (g : Nat) (w : World) (p : Option Addr) (ts : List ByteArray) : Prop :=
  ts = [] ∨ ∃ b o, p = some ⟨b, o, none⟩ ∧ b < g ∧ ∀ i (h : i < ts.length), w.cell? ⟨b, o + i, none⟩ = some (.string ts[i])
theorem Toks.step {g : Nat} {w w' : World} {p : Option Addr} {ts : List ByteArray} (h : Toks g w p ts) (s : Below g w w') : Toks g w' p ts := by
  rcases h with h | ⟨b, o, h1, h2, h3⟩
  · exact .inl h
  · exact .inr ⟨b, o, h1, h2, fun i hi => (s.cell (p := ⟨b, o + i, none⟩) h2).trans (h3 i hi)⟩
/-- the parser in block g -/
def PS (g : Nat) (w : World) (ts : List ByteArray) (bad : Bool) : Prop :=
  ∃ p c, ts.length ≤ c ∧ Known w g 49 #[.slice p ts.length c, .bool bad] ∧ Toks g w p ts
theorem PS.below {g : Nat} {w w' : World} {ts : List ByteArray} {bad : Bool} (h : PS g w ts bad) (s : Below w.heap.size w w') : PS g w' ts bad := by
  obtain ⟨p, c, h1, h2, h3⟩ := h
  exact ⟨p, c, h1, h2.on s, h3.step (s.mono (Nat.le_of_lt h2.lt))⟩
theorem PS.lt {g : Nat} {w : World} {ts : List ByteArray} {bad : Bool} (h : PS g w ts bad) : g < w.heap.size := by
  obtain ⟨p, c, h1, h2, h3⟩ := h
  exact h2.lt
theorem PS.alloc {g : Nat} {w : World} {ts : List ByteArray} {bad : Bool} (h : PS g w ts bad) (o : Obj) : PS g (w.alloc o) ts bad := h.below (below_new0 w o)
theorem PS.drew {g : Nat} {w : World} {ts : List ByteArray} {bad : Bool} (h : PS g w ts bad) : PS g w.drew ts bad := h.below (Below.refl _ _).drew
/-- all tokens have been read -/
theorem PS.nil {g : Nat} {w : World} {bad : Bool} (h : PS g w [] bad) : ∃ p c, w.cell? ⟨g, 0, none⟩ = some (.slice p 0 c) ∧ w.cell? ⟨g, 1, none⟩ = some (.bool bad) ∧ w.frozen? ⟨g, 0, none⟩ = false ∧ w.frozen? ⟨g, 1, none⟩ = false := by
  obtain ⟨p, c, h1, h2, h3⟩ := h
  exact ⟨p, c, h2.cell 0, h2.cell 1, h2.free 0, h2.free 1⟩
theorem PS.cons {g : Nat} {w : World} {t : ByteArray} {r : List ByteArray} {bad : Bool} (h : PS g w (t :: r) bad) :
    ∃ b o c, w.cell? ⟨g, 0, none⟩ = some (.slice (some ⟨b, o, none⟩) (r.length + 1) (c + 1)) ∧ r.length ≤ c ∧ w.cell? ⟨g, 1, none⟩ = some (.bool bad) ∧ w.frozen? ⟨g, 0, none⟩ = false ∧ w.frozen? ⟨g, 1, none⟩ = false
      ∧ w.cell? ⟨b, o, none⟩ = some (.string t) ∧ PS g (w.setCell ⟨g, 0, none⟩ (.slice (some ⟨b, o + 1, none⟩) r.length c)) r bad
      ∧ (c = 0 → PS g (w.setCell ⟨g, 0, none⟩ (.slice (some ⟨b, o, none⟩) r.length 0)) r bad) := by
  obtain ⟨p, c, h1, h2, h3⟩ := h
  rcases h3 with h3 | ⟨b, o, rfl, hb, h3⟩
  · cases h3
  · simp only [List.length_cons] at h1 h3 h2
    obtain ⟨d, rfl⟩ : ∃ d, c = d + 1 := ⟨c - 1, by omega⟩
    refine ⟨b, o, d, h2.cell 0, by omega, h2.cell 1, h2.free 0, h2.free 1, by simpa using h3 0 (by omega), ⟨some ⟨b, o + 1, none⟩, d, by omega, h2.put 0 _, ?_⟩,
      fun hd => ⟨some ⟨b, o, none⟩, 0, by omega, h2.put 0 _, .inl (List.eq_nil_of_length_eq_zero (by omega))⟩⟩
    refine .inr ⟨b, o + 1, rfl, hb, fun i hi => ?_⟩
    rw [((Below.refl g w).setCell (p := ⟨g, 0, none⟩) (Nat.le_refl _) _).cell (p := ⟨b, o + 1 + i, none⟩) hb]
    have := h3 (i + 1) (by omega)
    rw [show o + 1 + i = o + (i + 1) by omega]
    simpa using this
theorem PS.bad {g : Nat} {w : World} {ts : List ByteArray} {bad : Bool} (h : PS g w ts bad) :
    w.cell? ⟨g, 1, none⟩ = some (.bool bad) ∧ w.frozen? ⟨g, 1, none⟩ = false ∧ ∀ b, PS g (w.setCell ⟨g, 1, none⟩ (.bool b)) ts b := by
  obtain ⟨p, c, h1, h2, h3⟩ := h
  exact ⟨h2.cell 1, h2.free 1, fun b => ⟨p, c, h1, h2.put 1 (.bool b), h3.step ((Below.refl g w).setCell (p := ⟨g, 1, none⟩) (Nat.le_refl _) _)⟩⟩
/-- a list of texts in block x -/
def Strs (w : World) (x : Nat) (l : List ByteArray) : Prop := ∀ i (h : i < l.length), w.cell? ⟨x, i, none⟩ = some (.string l[i])
theorem Strs.made (w : World) (t : TypeId) (l : List ByteArray) : Strs (w.alloc (.cells (l.map Value.string).toArray t)) w.heap.size l := by
  intro i hi
  rw [(Known.made w t _).cell i]
  simp [hi]
theorem Strs.step {g x : Nat} {w w' : World} {l : List ByteArray} (h : Strs w x l) (s : Step g w w') (hx : x ≠ g) (hl : x < w.heap.size) : Strs w' x l := by
  intro i hi
  rw [← h i hi]
  by_cases e : x < g
  · exact World.cell?_of_block (w := w) (s.below.block x e)
  · exact World.cell?_of_block (w := w) (s.rest x (by omega) hl)
end Go.Proofs.YtlkfnpmcihfjmaaDoor
