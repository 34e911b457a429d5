/-
  The list of footnotes as plain data. No conditions but those typed.
-/
import Derived.Test.YtibmemaciahofaaDoorDoc
namespace Go.Proofs.YtibmemaciahofaaDoor.Doc
/-- texts that fit into memory -/
def Ins.fit : Ins → Prop
  | .nil => True
  | .cons _ t _ _ _ k r => t.size ≤ 9223372036854775807 ∧ k.fit ∧ r.fit
theorem Ins.fit_app : ∀ {a b : Ins}, (a.app b).fit ↔ a.fit ∧ b.fit
  | .nil, b => by simp [Ins.fit]
  | .cons a t s n h k r, b => by
    have := Ins.fit_app (a := r) (b := b)
    simp only [Ins.app, Ins.fit, this]
    exact ⟨fun ⟨h1, h2, h3, h4⟩ => ⟨⟨h1, h2, h3⟩, h4⟩, fun ⟨⟨h1, h2, h3⟩, h4⟩ => ⟨h1, h2, h3, h4⟩⟩
theorem Ins.fit_marks : ∀ l : Ins, l.fit → l.marks.fit
  | .nil, _ => trivial
  | .cons a t s n h k r, hf => by
    have h1 := Ins.fit_marks k hf.2.1
    have h2 := Ins.fit_marks r hf.2.2
    unfold Ins.marks
    split
    · exact ⟨hf.1, hf.2.1, h2⟩
    · split
      · exact Ins.fit_app.2 ⟨h1, h2⟩
      · exact h2
def Bls.fit : Bls → Prop
  | .nil => True
  | .cons _ _ _ i k r => i.fit ∧ k.fit ∧ r.fit
theorem Bls.fit_marks : ∀ l : Bls, l.fit → l.marks.fit
  | .nil, _ => trivial
  | .cons a l t i k r, hf => by
    have h1 := Ins.fit_marks i hf.1
    have h2 := Bls.fit_marks k hf.2.1
    have h3 := Bls.fit_marks r hf.2.2
    exact Ins.fit_app.2 ⟨Ins.fit_app.2 ⟨h1, h2⟩, h3⟩
theorem Ins.fit_bulk : ∀ l : Ins, l.bulk ≤ 9223372036854775807 → l.fit
  | .nil, _ => trivial
  | .cons a t s n h k r, hf => by
    simp only [Ins.bulk] at hf
    exact ⟨by omega, Ins.fit_bulk k (by omega), Ins.fit_bulk r (by omega)⟩
theorem Bls.fit_bulk : ∀ l : Bls, l.bulk ≤ 9223372036854775807 → l.fit
  | .nil, _ => trivial
  | .cons a l t i k r, hf => by
    simp only [Bls.bulk] at hf
    exact ⟨Ins.fit_bulk i (by omega), Bls.fit_bulk k (by omega), Bls.fit_bulk r (by omega)⟩
end Go.Proofs.YtibmemaciahofaaDoor.Doc
namespace Go.Proofs.YtibmemaciahofaaDoor.Note
open Doc

structure Nt where
  name : ByteArray
  ins : Ins
  uses : List Nat
instance : Inhabited Nt := ⟨⟨⟨#[]⟩, .nil, []⟩⟩
/-- the last of the first k notes that has the name t -/
def plc (L : List Nt) (t : List UInt8) : Nat → Option Nat
  | 0 => none
  | k + 1 => if (L.getD k default).name.data.toList = t then some k else plc L t k
/-- where a mark's note lies -/
def plcT (L : List Nt) (t : List UInt8) : Option Nat := if t = [] then none else plc L t L.length
theorem plc_lt (L : List Nt) (t : List UInt8) : ∀ k m, plc L t k = some m → m < k
  | 0, m, h => by cases h
  | k + 1, m, h => by
    unfold plc at h
    split at h
    · injection h with h; omega
    · have := plc_lt L t k m h; omega
theorem plc_congr (L M : List Nt) (t : List UInt8) : ∀ k, (∀ j, j < k → (L.getD j default).name = (M.getD j default).name) → plc L t k = plc M t k
  | 0, _ => rfl
  | k + 1, h => by rw [plc, plc, h k (by omega), plc_congr L M t k fun j hj => h j (by omega)]
/-- a use more -/
def upd (n : Nt) (i : Nat) (k : Ins) : Nt := ⟨n.name, if n.ins.len = 0 then k else n.ins, n.uses ++ [i]⟩
/-- the i-th mark, of the name t, with the kids k -/
def nstep (L : List Nt) (i : Nat) (t : ByteArray) (k : Ins) : List Nt :=
  match plcT L t.data.toList with
  | some m => L.set m (upd (L.getD m default) (i + 1) k)
  | none => L ++ [⟨t, k, [i + 1]⟩]
def notesF : List Nt → Nat → Ins → List Nt
  | L, _, .nil => L
  | L, i, .cons _ t _ _ _ k r => notesF (nstep L i t k) (i + 1) r
def notes (l : Ins) : List Nt := notesF [] 0 l
theorem notesF_app (a b : Ins) : ∀ L i, notesF L i (a.app b) = notesF (notesF L i a) (i + a.len) b := by
  induction a with
  | nil => intro L i; rfl
  | cons k t s n h q r _ ihr =>
    intro L i
    simp only [Ins.app, notesF, Ins.len]
    rw [ihr, show i + 1 + r.len = i + (r.len + 1) by omega]
theorem step_len (L : List Nt) (i : Nat) (t : ByteArray) (k : Ins) : L.length ≤ (nstep L i t k).length ∧ (nstep L i t k).length ≤ L.length + 1 := by
  unfold nstep
  split
  · simp
  · simp
/-- the names are as they were, but for one more behind them -/
theorem step_name (L : List Nt) (i : Nat) (t : ByteArray) (k : Ins) : ∀ j, j < L.length → ((nstep L i t k).getD j default).name = (L.getD j default).name := by
  intro j hj
  unfold nstep
  split
  · rename_i m _
    by_cases e : m = j
    · subst e
      simp [List.getD, hj, upd]
    · simp [List.getD, List.getElem?_set_ne e]
  · simp [List.getD, List.getElem?_append_left hj]
/-- how many uses there are -/
def total (L : List Nt) : Nat := (L.map fun n => n.uses.length).sum
theorem uses_le (L : List Nt) : ∀ j, j < L.length → (L.getD j default).uses.length ≤ total L := by
  intro j hj
  unfold total
  induction L generalizing j with
  | nil => simp at hj
  | cons a r ih =>
    simp only [List.map_cons, List.sum_cons]
    cases j with
    | zero => simp [List.getD]
    | succ j =>
      have := ih j (by simpa using hj)
      simp only [List.getD, List.getElem?_cons_succ] at this ⊢
      omega
theorem total_set (L : List Nt) (m : Nat) (x : Nt) (hm : m < L.length) (hx : x.uses.length = (L.getD m default).uses.length + 1) : total (L.set m x) = total L + 1 := by
  unfold total
  induction L generalizing m with
  | nil => simp at hm
  | cons a r ih =>
    cases m with
    | zero =>
      simp only [List.getD, List.getElem?_cons_zero, Option.getD_some] at hx
      simp only [List.set_cons_zero, List.map_cons, List.sum_cons]
      omega
    | succ m =>
      have := ih m (by simpa using hm) (by simpa [List.getD] using hx)
      simp only [List.set_cons_succ, List.map_cons, List.sum_cons]
      omega
theorem step_total (L : List Nt) (i : Nat) (t : ByteArray) (k : Ins) : total (nstep L i t k) = total L + 1 := by
  unfold nstep
  split
  · rename_i m h
    have hm : m < L.length := by
      unfold plcT at h
      split at h
      · cases h
      · exact plc_lt L _ _ m h
    exact total_set L m _ hm (by simp [upd])
  · simp [total]
theorem notesF_total (l : Ins) : ∀ L i, total (notesF L i l) = total L + l.len := by
  induction l with
  | nil => intro L i; rfl
  | cons k t s n h q r _ ihr =>
    intro L i
    simp only [notesF, Ins.len]
    rw [ihr, step_total]; omega
theorem notesF_len (l : Ins) : ∀ L i, (notesF L i l).length ≤ L.length + l.len := by
  induction l with
  | nil => intro L i; exact Nat.le_refl _
  | cons k t s n h q r _ ihr =>
    intro L i
    simp only [notesF, Ins.len]
    have := ihr (nstep L i t q) (i + 1)
    have := (step_len L i t q).2
    omega
end Go.Proofs.YtibmemaciahofaaDoor.Note
