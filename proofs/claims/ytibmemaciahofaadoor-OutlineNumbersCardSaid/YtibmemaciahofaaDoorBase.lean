/-
  Small lemmas that all walks of this seat share. No conditions but those typed in each theorem.
-/
import Derived.Test.YtibmemaciahofaaDoorProg
import Derived.WalkKit
import Derived.WalkSpells
import Derived.WalkSmall
import Derived.Deep.QuietTactic
import Derived.BigQuiet
import Derived.Lib.Hide
namespace Go.Proofs.YtibmemaciahofaaDoor
open Go.RowKit

theorem ret_int {k : IntKind} {a b : Int} (h : a = b) : Ending.returned (.int k a) = .returned (.int k b) := by rw [h]
theorem ret_bool {a b : Bool} (h : a = b) : Ending.returned (.bool a) = .returned (.bool b) := by rw [h]
theorem ret_int2 {k l : IntKind} {a b c d : Int} (h : a = b) (h' : c = d) : Ending.returned (.tuple #[.int k a, .int l c]) = .returned (.tuple #[.int k b, .int l d]) := by rw [h, h']

/-- A quiet call by a contract that leaves the world alone. -/
theorem quiet_id {P : Program} {f : FuncId} {args : Array Value} {w : World} {n : Nat} {v : Value}
    (h : Calls P f args (w.drewN n) fun e w' => e = .returned v ∧ w.drewN n = w') : Calls P f args (w.drewN n) fun e w'' => e = .returned v ∧ ∃ m, w'' = w.drewN m :=
  h.mono fun _ _ ⟨he, hm⟩ => ⟨he, n, hm.symm⟩
theorem below_new (w : World) (o : Obj) (n : Nat) : Below w.heap.size w ((w.alloc o).drewN n) := below_drewN ((Below.refl _ _).alloc (Nat.le_refl _) _) _
theorem below_new0 (w : World) (o : Obj) : Below w.heap.size w (w.alloc o) := (Below.refl _ _).alloc (Nat.le_refl _) _

/-! ### A region that draws its order, whose operations read old memory alone and whose calls at most make new memory: one walk of the text's order. -/

/-- w1, if it keeps all that is in w0; else w0. -/
noncomputable def gr (w0 w1 : World) : World := @ite World (Below w0.heap.size w0 w1) (Classical.propDecidable _) w1 w0
theorem gr_of {w0 w1 : World} (h : Below w0.heap.size w0 w1) : gr w0 w1 = w1 := by unfold gr; rw [if_pos h]
theorem gr_below (w0 w1 : World) : Below w0.heap.size w0 (gr w0 w1) := by
  by_cases h : Below w0.heap.size w0 w1
  · rw [gr_of h]; exact h
  · unfold gr; rw [if_neg h]; exact Below.refl _ _
@[go_sem] theorem gr_cell (w0 w1 : World) (a : Addr) (h : a.block < w0.heap.size) : (gr w0 w1).cell? a = w0.cell? a := (gr_below w0 w1).cell h
@[go_sem] theorem gr_frozen (w0 w1 : World) (a : Addr) (h : a.block < w0.heap.size) : (gr w0 w1).frozen? a = w0.frozen? a := (gr_below w0 w1).frozen h
theorem gr_more {w0 w1 w2 : World} (h : Below (gr w0 w1).heap.size (gr w0 w1) w2) : ∃ w3, w2 = gr w0 w3 :=
  ⟨w2, (gr_of ((gr_below w0 w1).trans (h.mono (gr_below w0 w1).size))).symm⟩
/-- A call in such a region, by a contract that says 'Below'. -/
theorem gr_call {P : Program} {f : FuncId} {args : Array Value} {w0 w1 : World} {v : Value}
    (h : Calls P f args (gr w0 w1) fun e w' => e = .returned v ∧ Below (gr w0 w1).heap.size (gr w0 w1) w') : Calls P f args (gr w0 w1) fun e w'' => e = .returned v ∧ ∃ w2, w'' = gr w0 w2 :=
  h.mono fun _ _ ⟨he, hm⟩ => ⟨he, gr_more hm⟩
/-- .. by one that says that the world is as it was. -/
theorem gr_same {P : Program} {f : FuncId} {args : Array Value} {w0 w1 : World} {v : Value}
    (h : Calls P f args (gr w0 w1) fun e w' => e = .returned v ∧ gr w0 w1 = w') : Calls P f args (gr w0 w1) fun e w'' => e = .returned v ∧ ∃ w2, w'' = gr w0 w2 :=
  h.mono fun _ _ ⟨he, hm⟩ => ⟨he, w1, hm.symm⟩
theorem wp_region_gr {P : Program} {id : Nat} {Q : Exit → Act → World → Prop} {a : Act} {w : World} {l : List Oper} (hm : P.follows .mixedOrders = true) (hB : Region.lexB .any l.toArray = true)
    (h : wpQuiet P l.toArray (fun w' => ∃ w1, w' = gr w w1) (fun a' => ∀ w', (∃ w1, w' = gr w w1) → Q .normal a' w') l a) : (Code.region id l.toArray true).wp P Q a w :=
  wp_region_quiet (C := fun w' => ∃ w1, w' = gr w w1) hm hB ⟨w.drew, (gr_of (Below.refl _ _).drew).symm⟩ (by simpa using h)

/-! ### A block that is known whole -/

/-- Block g holds just these cells, none of them frozen. -/
def Known (w : World) (g : Nat) (t : TypeId) (cs : Array Value) : Prop := w.heap[g]? = some (.cells cs t (0, 0))
section
variable {w w' : World} {g : Nat} {t : TypeId} {cs : Array Value}
theorem Known.lt (h : Known w g t cs) : g < w.heap.size := lt_of_block h
theorem Known.cell (h : Known w g t cs) (i : Nat) : w.cell? ⟨g, i, none⟩ = cs[i]? := by
  unfold Known at h
  simp [World.cell?, h]
theorem Known.free (h : Known w g t cs) (i : Nat) : w.frozen? ⟨g, i, none⟩ = false := by
  unfold Known at h
  simp [World.frozen?, h]
theorem Known.made (w : World) (t : TypeId) (cs : Array Value) : Known (w.alloc (.cells cs t)) w.heap.size t cs := by
  show (w.heap.push _)[w.heap.size]? = _
  simp
theorem Known.alloc (h : Known w g t cs) (o : Obj) : Known (w.alloc o) g t cs := (Below.heap_alloc w o g h.lt).trans h
theorem Known.below {B : Nat} (h : Known w g t cs) (hb : Below B w w') (hg : g < B) : Known w' g t cs := (hb.block g hg).trans h
theorem Known.on (h : Known w g t cs) (hb : Below w.heap.size w w') : Known w' g t cs := h.below hb h.lt
theorem Known.put (h : Known w g t cs) (i : Nat) (u : Value) : Known (w.setCell ⟨g, i, none⟩ u) g t (cs.setIfInBounds i u) := by
  unfold Known at h ⊢
  simp [World.setCell, Array.getElem?_modify, h]
theorem Known.three {a b c : Value} (h : Known w g t #[a, b, c]) : w.cell? ⟨g, 0, none⟩ = some a ∧ w.cell? ⟨g, 1, none⟩ = some b ∧ w.cell? ⟨g, 2, none⟩ = some c :=
  ⟨h.cell 0, h.cell 1, h.cell 2⟩
theorem Known.two {a b : Value} (h : Known w g t #[a, b]) : w.cell? ⟨g, 0, none⟩ = some a ∧ w.cell? ⟨g, 1, none⟩ = some b :=
  ⟨h.cell 0, h.cell 1⟩
theorem Known.one {a : Value} (h : Known w g t #[a]) : w.cell? ⟨g, 0, none⟩ = some a := h.cell 0
theorem Known.far (h : Known w g t cs) {p : Addr} (hp : g ≠ p.block) (u : Value) : Known (w.setCell p u) g t cs := (Below.heap_setCell w p u g hp).trans h
end
end Go.Proofs.YtibmemaciahofaaDoor
