/-
  The claim's own texts, packed. Conditions: those typed in each theorem.
-/
import Derived.Test.YthieinfonomeeaaGreatDoorProg
import Derived.WalkKit
import Derived.WalkSpells
import Derived.WalkSmall
import Derived.Deep.QuietTactic
import Derived.BigQuiet
import Derived.Lib.Hide
namespace Go.Proofs.YthieinfonomeeaaGreatDoor
open Go.RowKit
theorem ret_int {k : IntKind} {a b : Int} (h : a = b) : Ending.returned (.int k a) = .returned (.int k b) := by rw [h]
theorem ret_bool {a b : Bool} (h : a = b) : Ending.returned (.bool a) = .returned (.bool b) := by rw [h]
theorem below_new0 (w : World) (o : Obj) : Below w.heap.size w (w.alloc o) := (Below.refl _ _).alloc (Nat.le_refl _) _
noncomputable def gr (w0 w1 : World) : World := @ite World (Below w0.heap.size w0 w1) (Classical.propDecidable _) w1 w0
theorem gr_of {w0 w1 : World} (h : Below w0.heap.size w0 w1) : gr w0 w1 = w1 := by unfold gr; rw [if_pos h]
theorem gr_below (w0 w1 : World) : Below w0.heap.size w0 (gr w0 w1) := by
 by_cases h : Below w0.heap.size w0 w1
 ·rw [gr_of h]; exact h
 ·unfold gr; rw [if_neg h]; exact Below.refl _ _
@[go_sem] theorem gr_cell (w0 w1 : World) (a : Addr) (h : a.block < w0.heap.size) : (gr w0 w1).cell? a = w0.cell? a := (gr_below w0 w1).cell h
@[go_sem] theorem gr_frozen (w0 w1 : World) (a : Addr) (h : a.block < w0.heap.size) : (gr w0 w1).frozen? a = w0.frozen? a := (gr_below w0 w1).frozen h
theorem gr_more {w0 w1 w2 : World} (h : Below (gr w0 w1).heap.size (gr w0 w1) w2) : ∃ w3, w2 = gr w0 w3 :=
 ⟨w2, (gr_of ((gr_below w0 w1).trans (h.mono (gr_below w0 w1).size))).symm⟩
theorem gr_call {P : Program} {f : FuncId} {args : Array Value} {w0 w1 : World} {v : Value}
  (h : Calls P f args (gr w0 w1) fun e w' => e = .returned v ∧ Below (gr w0 w1).heap.size (gr w0 w1) w') : Calls P f args (gr w0 w1) fun e w'' => e = .returned v ∧ ∃ w2, w'' = gr w0 w2 :=
 h.mono fun _ _ ⟨he, hm⟩ => ⟨he, gr_more hm⟩
theorem gr_same {P : Program} {f : FuncId} {args : Array Value} {w0 w1 : World} {v : Value}
  (h : Calls P f args (gr w0 w1) fun e w' => e = .returned v ∧ gr w0 w1 = w') : Calls P f args (gr w0 w1) fun e w'' => e = .returned v ∧ ∃ w2, w'' = gr w0 w2 :=
 h.mono fun _ _ ⟨he, hm⟩ => ⟨he, w1, hm.symm⟩
theorem wp_region_gr {P : Program} {id : Nat} {Q : Exit → Act → World → Prop} {a : Act} {w : World} {l : List Oper} (hm : P.follows .mixedOrders = true) (hB : Region.lexB .any l.toArray = true)
  (h : wpQuiet P l.toArray (fun w' => ∃ w1, w' = gr w w1) (fun a' => ∀ w', (∃ w1, w' = gr w w1) → Q .normal a' w') l a) : (Code.region id l.toArray true).wp P Q a w :=
 wp_region_quiet (C := fun w' => ∃ w1, w' = gr w w1) hm hB ⟨w.drew, (gr_of (Below.refl _ _).drew).symm⟩ (by simpa using h)
def Known (w : World) (g : Nat) (t : TypeId) (cs : Array Value) : Prop := w.heap[g]? = some (.cells cs t (0, 0))
section
variable {w w' : World} {g : Nat} {t : TypeId} {cs : Array Value}
theorem Known.lt (h : Known w g t cs) : g < w.heap.size := lt_of_block h
theorem Known.cell (h : Known w g t cs) (i : Nat) : w.cell? ⟨g, i, none⟩ = cs[i]? := by
 unfold Known at h
 simp [World.cell?, h]
theorem Known.free (h : Known w g t cs) (i : Nat) : w.frozen? ⟨g, i, none⟩ = false := by
 unfold Known at h
 simp [World.frozen?, h]
theorem Known.made (w : World) (t : TypeId) (cs : Array Value) : Known (w.alloc (.cells cs t)) w.heap.size t cs := by
 show (w.heap.push _)[w.heap.size]? = _
 simp
theorem Known.alloc (h : Known w g t cs) (o : Obj) : Known (w.alloc o) g t cs := (Below.heap_alloc w o g h.lt).trans h
theorem Known.below {B : Nat} (h : Known w g t cs) (hb : Below B w w') (hg : g < B) : Known w' g t cs := (hb.block g hg).trans h
theorem Known.on (h : Known w g t cs) (hb : Below w.heap.size w w') : Known w' g t cs := h.below hb h.lt
theorem Known.put (h : Known w g t cs) (i : Nat) (u : Value) : Known (w.setCell ⟨g, i, none⟩ u) g t (cs.setIfInBounds i u) := by
 unfold Known at h ⊢
 simp [World.setCell, Array.getElem?_modify, h]
theorem Known.two {a b : Value} (h : Known w g t #[a, b]) : w.cell? ⟨g, 0, none⟩ = some a ∧ w.cell? ⟨g, 1, none⟩ = some b :=
 ⟨h.cell 0, h.cell 1⟩
theorem Known.one {a : Value} (h : Known w g t #[a]) : w.cell? ⟨g, 0, none⟩ = some a := h.cell 0
theorem Known.far (h : Known w g t cs) {p : Addr} (hp : g ≠ p.block) (u : Value) : Known (w.setCell p u) g t cs := (Below.heap_setCell w p u g hp).trans h
end
end Go.Proofs.YthieinfonomeeaaGreatDoor
namespace Go.Proofs.YthieinfonomeeaaGreatDoor.Tit
set_option linter.unusedVariables false
def unb (c : UInt8) : UInt8 := if c = 95 then 32 else c
def sqF : List UInt8 → List UInt8 → List UInt8
 | out, [] => out
 | out, c :: r => if unb c = 32 ∧ (out = [] ∨ out.getLast? = some 32) then sqF out r else sqF (out ++ [unb c]) r
def chop (l : List UInt8) : List UInt8 := if l.getLast? = some 32 then l.dropLast else l
def sq (l : List UInt8) : List UInt8 := chop (sqF [] l)
def dropOne (l : List UInt8) : List UInt8 := if l.head? = some 32 then l.tail else l
def lowC (c : UInt8) : UInt8 := if 65 ≤ c ∧ c ≤ 90 then c + 32 else c
def low (l : List UInt8) : List UInt8 := l.map lowC
def spn : Nat → List UInt8
 | 1 => [84, 97, 108, 107]
 | 2 => [85, 115, 101, 114]
 | 3 => [84, 101, 109, 112, 108, 97, 116, 101]
 | 4 => [67, 97, 116, 101, 103, 111, 114, 121]
 | 5 => [80, 114, 111, 106, 101, 99, 116]
 | _ => []
def spOf (p : List UInt8) : Nat → Nat → Option Nat
 | 0, _ => none
 | f + 1, n => if low p = low (spn n) then some n else spOf p f (n + 1)
def pre (s : List UInt8) : Option (Nat × List UInt8) :=
 if (s.takeWhile (· ≠ 58)).length = s.length then none
 else (spOf (chop (s.takeWhile (· ≠ 58))) 5 1).map fun n => (n, s.drop ((s.takeWhile (· ≠ 58)).length + 1))
def nobF : UInt8 → List UInt8 → List UInt8
 | _, [] => []
 | p, c :: r => if c = 32 ∧ (p = 47 ∨ r.head? = some 47) then nobF c r else c :: nobF c r
def nob (s : List UInt8) : List UInt8 := nobF 0 s
def upc : List UInt8 → List UInt8
 | [] => []
 | c :: r => if 97 ≤ c ∧ c ≤ 122 then (c - 32) :: r else c :: r
def segs : List UInt8 → List (List UInt8)
 | [] => [[]]
 | c :: r => if c = 47 then [] :: segs r else match segs r with
   | [] => [[c]]
   | x :: l => (c :: x) :: l
def badC (c : UInt8) : Bool := c < 32 || c == 127 || c == 60 || c == 62 || c == 91 || c == 93 || c == 123 || c == 125 || c == 124 || c == 35 || c == 95
def cleanF : UInt8 → List UInt8 → Bool
 | _, [] => true
 | p, c :: r => !(badC c || (c == 32 && p == 32)) && cleanF c r
def segOk (p : List UInt8) : Bool := !(p == [] || p.head? == some 32 || p.getLast? == some 32)
def validN (main : Bool) (s : List UInt8) : Bool :=
 1 ≤ s.length && s.length ≤ 100 && cleanF 0 s && (segs s).all segOk && !(s.head? == some 58 || (s.head?.any fun c => 97 ≤ c && c ≤ 122)) && !(main && (pre s).isSome)
def valid (sp : Int) (s : List UInt8) : Bool := decide (0 ≤ sp) && decide (sp < 6) && validN (sp == 0) s
def rawS (s : List UInt8) : List UInt8 := if (sq s).head? = some 58 then dropOne (sq s).tail else sq s
def rawT (s : List UInt8) : Nat × List UInt8 := match pre (rawS s) with
 | some (n, r) => (n, upc (nob (dropOne r)))
 | none => (0, upc (nob (rawS s)))
def parse (s : List UInt8) : Nat × List UInt8 × Nat :=
 if 100 < (rawT s).2.length then (0, [], 3)
 else if valid (rawT s).1 (rawT s).2 then ((rawT s).1, (rawT s).2, 0) else (0, [], 1)
def lone : List UInt8 → Prop
 | [] => True
 | [_] => True
 | a :: b :: r => ¬ (a = 32 ∧ b = 32) ∧ lone (b :: r)
theorem lone_tail {a : UInt8} {l : List UInt8} (h : lone (a :: l)) : lone l := by
 cases l with
 | nil => trivial
 | cons b r => exact h.2
theorem lone_drop {l : List UInt8} (h : lone l) : ∀ n, lone (l.drop n) := by
 intro n
 induction n generalizing l with
 | zero => simpa using h
 | succ n ih =>
   cases l with
   | nil => simp [lone]
   | cons a r => exact ih (lone_tail h)
theorem lone_snoc {c : UInt8} : ∀ {l : List UInt8}, lone l → (c = 32 → l.getLast? ≠ some 32) → lone (l ++ [c])
 | [], _, _ => trivial
 | [a], _, hc => ⟨fun ⟨h1, h2⟩ => hc h2 (by simp [h1]), trivial⟩
 | a :: b :: r, h, hc => ⟨h.1, lone_snoc (l := b :: r) h.2 (fun e => by have := hc e; simpa [List.getLast?_cons_cons] using this)⟩
theorem lone_init {c : UInt8} : ∀ {l : List UInt8}, lone (l ++ [c]) → lone l
 | [], _ => trivial
 | [a], _ => trivial
 | a :: b :: r, h => ⟨h.1, lone_init (l := b :: r) h.2⟩
theorem lone_dropLast {l : List UInt8} (h : lone l) : lone l.dropLast := by
 by_cases h0 : l = []
 ·subst h0; simpa using h
 ·rw [← List.dropLast_concat_getLast h0] at h
  exact lone_init h
theorem lone_sqF : ∀ (s out : List UInt8), lone out → lone (sqF out s)
 | [], out, h => h
 | c :: r, out, h => by
   unfold sqF
   split
   ·exact lone_sqF r out h
   ·rename_i hc
    refine lone_sqF r _ (lone_snoc h fun e e2 => hc ⟨e, .inr e2⟩)
theorem lone_chop {l : List UInt8} (h : lone l) : lone (chop l) := by
 unfold chop
 split
 ·exact lone_dropLast h
 ·exact h
theorem lone_sq (s : List UInt8) : lone (sq s) := lone_chop (lone_sqF s [] trivial)
theorem lone_dropOne {l : List UInt8} (h : lone l) : lone (dropOne l) := by
 unfold dropOne
 split
 ·cases l with
  | nil => exact h
  | cons a r => exact lone_tail h
 ·exact h
theorem lone_rawS (s : List UInt8) : lone (rawS s) := by
 unfold rawS
 have h := lone_sq s
 split
 ·refine lone_dropOne ?_
  cases hs : sq s with
  | nil => trivial
  | cons a r => rw [hs] at h; exact lone_tail h
 ·exact h
theorem lone_pre {s r : List UInt8} {n : Nat} (hs : lone s) (h : pre s = some (n, r)) : lone r := by
 unfold pre at h
 split at h
 ·cases h
 ·cases hq : spOf (chop (s.takeWhile (· ≠ 58))) 5 1 with
  | none => rw [hq] at h; cases h
  | some k =>
    rw [hq] at h
    injection h with h
    injection h with h1 h2
    rw [← h2]
    exact lone_drop hs _
end Go.Proofs.YthieinfonomeeaaGreatDoor.Tit
namespace Go.Proofs.YthieinfonomeeaaGreatDoor.Doc
inductive Ins where
 | nil
 | cons (kind : Int) (text : ByteArray) (sp : Int) (nm anchor : ByteArray) (kids rest : Ins)
namespace Ins
def len : Ins → Nat
 | nil => 0
 | cons _ _ _ _ _ _ r => r.len + 1
def size : Ins → Nat
 | nil => 0
 | cons _ _ _ _ _ k r => k.size + r.size + 1
def app : Ins → Ins → Ins
 | nil, b => b
 | cons a t s n h k r, b => cons a t s n h k (r.app b)
@[simp] theorem app_nil : ∀ a : Ins, a.app nil = a
 | nil => rfl
 | cons a t s n h k r => by rw [app, app_nil r]
@[simp] theorem nil_app (a : Ins) : nil.app a = a := rfl
theorem app_assoc : ∀ a b c : Ins, (a.app b).app c = a.app (b.app c)
 | nil, _, _ => rfl
 | cons a t s n h k r, b, c => by rw [app, app, app, app_assoc r]
theorem len_app : ∀ a b : Ins, (a.app b).len = a.len + b.len
 | nil, b => by simp [app, len]
 | cons a t s n h k r, b => by simp only [app, len, len_app r]; omega
theorem size_app : ∀ a b : Ins, (a.app b).size = a.size + b.size
 | nil, b => by simp [app, size]
 | cons a t s n h k r, b => by simp only [app, size, size_app r]; omega
theorem len_size : ∀ a : Ins, a.len ≤ a.size
 | nil => Nat.le_refl _
 | cons a t s n h k r => by have := len_size r; simp only [len, size]; omega
theorem len_zero {a : Ins} (h : a.len = 0) : a = nil := by
 cases a with
 | nil => rfl
 | cons => simp [len] at h
def marks : Ins → Ins
 | nil => nil
 | cons a t s n h k r => if a = 5 then cons a t s n h k r.marks else if a = 2 ∨ a = 3 ∨ a = 4 then k.marks.app r.marks else r.marks
theorem marks_size : ∀ l : Ins, l.marks.size ≤ l.size
 | nil => Nat.le_refl _
 | cons a t s n h k r => by
   have h1 := marks_size k
   have h2 := marks_size r
   unfold marks
   split
   ·simp only [size]; omega
   ·split
    ·simp only [size, size_app]; omega
    ·simp only [size]; omega
theorem marks_app : ∀ a b : Ins, (a.app b).marks = a.marks.app b.marks
 | nil, b => rfl
 | cons a t s n h k r, b => by
   simp only [app, marks, marks_app r b]
   split
   ·rfl
   ·split
    ·rw [app_assoc]
    ·rfl
def plain : Ins → List UInt8
 | nil => []
 | cons a t _ _ _ k r => (if a = 1 then t.data.toList else if a = 2 ∨ a = 3 ∨ a = 4 then k.plain else if a = 6 then [32] else []) ++ r.plain
def bulk : Ins → Nat
 | nil => 0
 | cons _ t _ _ _ k r => t.size + 1 + k.bulk + r.bulk
theorem plain_le : ∀ l : Ins, l.plain.length ≤ l.bulk
 | nil => Nat.le_refl _
 | cons a t s n h k r => by
   have h1 := plain_le k
   have h2 := plain_le r
   have h3 : t.data.toList.length = t.size := by simp
   unfold plain bulk
   rw [List.length_append]
   split
   ·omega
   ·split
    ·omega
    ·split
     ·simp only [List.length_cons, List.length_nil]; omega
     ·simp only [List.length_nil]; omega
end Ins
inductive Bls where
 | nil
 | cons (kind level : Int) (text : ByteArray) (ins : Ins) (kids rest : Bls)
namespace Bls
def len : Bls → Nat
 | nil => 0
 | cons _ _ _ _ _ r => r.len + 1
def size : Bls → Nat
 | nil => 0
 | cons _ _ _ i k r => i.size + k.size + r.size + 1
def app : Bls → Bls → Bls
 | nil, b => b
 | cons a l t i k r, b => cons a l t i k (r.app b)
@[simp] theorem app_nil : ∀ a : Bls, a.app nil = a
 | nil => rfl
 | cons a l t i k r => by rw [app, app_nil r]
@[simp] theorem nil_app (a : Bls) : nil.app a = a := rfl
theorem app_assoc : ∀ a b c : Bls, (a.app b).app c = a.app (b.app c)
 | nil, _, _ => rfl
 | cons a l t i k r, b, c => by rw [app, app, app, app_assoc r]
theorem len_app : ∀ a b : Bls, (a.app b).len = a.len + b.len
 | nil, b => by simp [app, len]
 | cons a l t i k r, b => by simp only [app, len, len_app r]; omega
theorem size_app : ∀ a b : Bls, (a.app b).size = a.size + b.size
 | nil, b => by simp [app, size]
 | cons a l t i k r, b => by simp only [app, size, size_app r]; omega
theorem len_size : ∀ a : Bls, a.len ≤ a.size
 | nil => Nat.le_refl _
 | cons a l t i k r => by have := len_size r; simp only [len, size]; omega
theorem len_zero {a : Bls} (h : a.len = 0) : a = nil := by
 cases a with
 | nil => rfl
 | cons => simp [len] at h
def bulk : Bls → Nat
 | nil => 0
 | cons _ _ t i k r => t.size + 1 + i.bulk + k.bulk + r.bulk
def marks : Bls → Ins
 | nil => .nil
 | cons _ _ _ i k r => (i.marks.app k.marks).app r.marks
theorem marks_size : ∀ l : Bls, l.marks.size ≤ l.size
 | nil => Nat.le_refl _
 | cons a l t i k r => by
   have h1 := marks_size k
   have h2 := marks_size r
   have h3 := i.marks_size
   simp only [marks, size, Ins.size_app]
   omega
theorem marks_app : ∀ a b : Bls, (a.app b).marks = a.marks.app b.marks
 | nil, b => rfl
 | cons a l t i k r, b => by simp only [app, marks, marks_app r b, Ins.app_assoc]
end Bls
end Go.Proofs.YthieinfonomeeaaGreatDoor.Doc
namespace Go.Proofs.YthieinfonomeeaaGreatDoor
end Go.Proofs.YthieinfonomeeaaGreatDoor
