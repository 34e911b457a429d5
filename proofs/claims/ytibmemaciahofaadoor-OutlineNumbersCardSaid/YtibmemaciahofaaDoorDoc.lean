/-
  Documents as plain data: elements within lines and blocks, each list by its first member and the rest; the marks of footnotes. No conditions.
-/
import Derived.Test.YtibmemaciahofaaDoorBase
namespace Go.Proofs.YtibmemaciahofaaDoor.Doc

/-- elements within a line, as a list -/
inductive Ins where
  | nil
  | cons (kind : Int) (text : ByteArray) (sp : Int) (nm anchor : ByteArray) (kids rest : Ins)
namespace Ins
/-- how many stand in the list -/
def len : Ins → Nat
  | nil => 0
  | cons _ _ _ _ _ _ r => r.len + 1
/-- how many there are at all -/
def size : Ins → Nat
  | nil => 0
  | cons _ _ _ _ _ k r => k.size + r.size + 1
def app : Ins → Ins → Ins
  | nil, b => b
  | cons a t s n h k r, b => cons a t s n h k (r.app b)
@[simp] theorem app_nil : ∀ a : Ins, a.app nil = a
  | nil => rfl
  | cons a t s n h k r => by rw [app, app_nil r]
@[simp] theorem nil_app (a : Ins) : nil.app a = a := rfl
theorem app_assoc : ∀ a b c : Ins, (a.app b).app c = a.app (b.app c)
  | nil, _, _ => rfl
  | cons a t s n h k r, b, c => by rw [app, app, app, app_assoc r]
theorem len_app : ∀ a b : Ins, (a.app b).len = a.len + b.len
  | nil, b => by simp [app, len]
  | cons a t s n h k r, b => by simp only [app, len, len_app r]; omega
theorem size_app : ∀ a b : Ins, (a.app b).size = a.size + b.size
  | nil, b => by simp [app, size]
  | cons a t s n h k r, b => by simp only [app, size, size_app r]; omega
theorem len_size : ∀ a : Ins, a.len ≤ a.size
  | nil => Nat.le_refl _
  | cons a t s n h k r => by have := len_size r; simp only [len, size]; omega
theorem len_zero {a : Ins} (h : a.len = 0) : a = nil := by
  cases a with
  | nil => rfl
  | cons => simp [len] at h
/-- the marks of footnotes -/
def marks : Ins → Ins
  | nil => nil
  | cons a t s n h k r => if a = 5 then cons a t s n h k r.marks else if a = 2 ∨ a = 3 ∨ a = 4 then k.marks.app r.marks else r.marks
theorem marks_size : ∀ l : Ins, l.marks.size ≤ l.size
  | nil => Nat.le_refl _
  | cons a t s n h k r => by
    have h1 := marks_size k
    have h2 := marks_size r
    unfold marks
    split
    · simp only [size]; omega
    · split
      · simp only [size, size_app]; omega
      · simp only [size]; omega
theorem marks_app : ∀ a b : Ins, (a.app b).marks = a.marks.app b.marks
  | nil, b => rfl
  | cons a t s n h k r, b => by
    simp only [app, marks, marks_app r b]
    split
    · rfl
    · split
      · rw [app_assoc]
      · rfl
theorem marks_len (l : Ins) : l.marks.len ≤ l.size := Nat.le_trans (len_size _) (marks_size l)
/-- the text -/
def plain : Ins → List UInt8
  | nil => []
  | cons a t _ _ _ k r => (if a = 1 then t.data.toList else if a = 2 ∨ a = 3 ∨ a = 4 then k.plain else if a = 6 then [32] else []) ++ r.plain
/-- how much text there is at all -/
def bulk : Ins → Nat
  | nil => 0
  | cons _ t _ _ _ k r => t.size + 1 + k.bulk + r.bulk
theorem plain_le : ∀ l : Ins, l.plain.length ≤ l.bulk
  | nil => Nat.le_refl _
  | cons a t s n h k r => by
    have h1 := plain_le k
    have h2 := plain_le r
    have h3 : t.data.toList.length = t.size := by simp
    unfold plain bulk
    rw [List.length_append]
    split
    · omega
    · split
      · omega
      · split
        · simp only [List.length_cons, List.length_nil]; omega
        · simp only [List.length_nil]; omega
end Ins

/-- blocks, as a list -/
inductive Bls where
  | nil
  | cons (kind level : Int) (text : ByteArray) (ins : Ins) (kids rest : Bls)
namespace Bls
def len : Bls → Nat
  | nil => 0
  | cons _ _ _ _ _ r => r.len + 1
def size : Bls → Nat
  | nil => 0
  | cons _ _ _ i k r => i.size + k.size + r.size + 1
def app : Bls → Bls → Bls
  | nil, b => b
  | cons a l t i k r, b => cons a l t i k (r.app b)
@[simp] theorem app_nil : ∀ a : Bls, a.app nil = a
  | nil => rfl
  | cons a l t i k r => by rw [app, app_nil r]
@[simp] theorem nil_app (a : Bls) : nil.app a = a := rfl
theorem app_assoc : ∀ a b c : Bls, (a.app b).app c = a.app (b.app c)
  | nil, _, _ => rfl
  | cons a l t i k r, b, c => by rw [app, app, app, app_assoc r]
theorem len_app : ∀ a b : Bls, (a.app b).len = a.len + b.len
  | nil, b => by simp [app, len]
  | cons a l t i k r, b => by simp only [app, len, len_app r]; omega
theorem size_app : ∀ a b : Bls, (a.app b).size = a.size + b.size
  | nil, b => by simp [app, size]
  | cons a l t i k r, b => by simp only [app, size, size_app r]; omega
theorem len_size : ∀ a : Bls, a.len ≤ a.size
  | nil => Nat.le_refl _
  | cons a l t i k r => by have := len_size r; simp only [len, size]; omega
theorem len_zero {a : Bls} (h : a.len = 0) : a = nil := by
  cases a with
  | nil => rfl
  | cons => simp [len] at h
def bulk : Bls → Nat
  | nil => 0
  | cons _ _ t i k r => t.size + 1 + i.bulk + k.bulk + r.bulk
/-- the marks of footnotes -/
def marks : Bls → Ins
  | nil => .nil
  | cons _ _ _ i k r => (i.marks.app k.marks).app r.marks
theorem marks_size : ∀ l : Bls, l.marks.size ≤ l.size
  | nil => Nat.le_refl _
  | cons a l t i k r => by
    have h1 := marks_size k
    have h2 := marks_size r
    have h3 := i.marks_size
    simp only [marks, size, Ins.size_app]
    omega
theorem marks_app : ∀ a b : Bls, (a.app b).marks = a.marks.app b.marks
  | nil, b => rfl
  | cons a l t i k r, b => by simp only [app, marks, marks_app r b, Ins.app_assoc]
end Bls
end Go.Proofs.YtibmemaciahofaaDoor.Doc
