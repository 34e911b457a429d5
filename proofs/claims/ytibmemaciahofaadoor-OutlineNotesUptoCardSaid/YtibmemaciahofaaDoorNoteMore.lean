/-
  More marks leave the notes as they were, but for later uses; a slice cut short. Conditions: those typed in each theorem.
-/
import Derived.Test.YtibmemaciahofaaDoorOutTree
import Derived.Test.YtibmemaciahofaaDoorCont
namespace Go.Proofs.YtibmemaciahofaaDoor.Note
open Doc
/-- the notes of L stand in M too: their names, their uses and more, their elements if there were any -/
def More (L M : List Nt) : Prop := L.length ≤ M.length ∧ ∀ j, j < L.length → (M.getD j default).name = (L.getD j default).name ∧ (L.getD j default).uses.length ≤ (M.getD j default).uses.length ∧ ((L.getD j default).ins.len ≠ 0 → (M.getD j default).ins = (L.getD j default).ins)
theorem More.refl (L : List Nt) : More L L := ⟨Nat.le_refl _, fun _ _ => ⟨rfl, Nat.le_refl _, fun _ => rfl⟩⟩
theorem More.trans {L M N : List Nt} (h : More L M) (k : More M N) : More L N := ⟨Nat.le_trans h.1 k.1, fun j hj => by
  obtain ⟨h1, h2, h3⟩ := h.2 j hj
  obtain ⟨k1, k2, k3⟩ := k.2 j (Nat.lt_of_lt_of_le hj h.1)
  exact ⟨k1.trans h1, Nat.le_trans h2 k2, fun h0 => (k3 (by rw [h3 h0]; exact h0)).trans (h3 h0)⟩⟩
theorem More.step (L : List Nt) (i : Nat) (t : ByteArray) (k : Ins) : More L (nstep L i t k) := by
  unfold nstep
  split
  · rename_i m hp
    have hm : m < L.length := by
      unfold plcT at hp
      split at hp
      · cases hp
      · exact plc_lt L _ _ m hp
    refine ⟨by rw [List.length_set]; exact Nat.le_refl _, fun j hj => ?_⟩
    rw [getD_set _ _ _ _ hm]
    split
    · rename_i e
      subst e
      exact ⟨rfl, by simp [upd], fun h0 => by simp only [upd]; rw [if_neg h0]⟩
    · exact ⟨rfl, Nat.le_refl _, fun _ => rfl⟩
  · refine ⟨by simp, fun j hj => ?_⟩
    rw [getD_more, if_pos hj]
    exact ⟨rfl, Nat.le_refl _, fun _ => rfl⟩
theorem More.notesF : ∀ (l : Ins) (L : List Nt) (i : Nat), More L (Note.notesF L i l) := by
  intro l
  induction l with
  | nil => intro L i; exact More.refl L
  | cons a t s n h k r _ ihr => intro L i; exact (More.step L i t k).trans (ihr _ _)
theorem More.app (a b : Ins) : More (notes a) (notes (a.app b)) := by
  unfold notes
  rw [notesF_app]
  exact More.notesF _ _ _
theorem ins_step {L : List Nt} {b : Nat} (h : ∀ j, j < L.length → (L.getD j default).ins.size ≤ b) (i : Nat) (t : ByteArray) (k : Ins) (hk : k.size ≤ b) : ∀ j, j < (nstep L i t k).length → ((nstep L i t k).getD j default).ins.size ≤ b := by
  intro j
  unfold nstep
  split
  · rename_i m hp
    have hm : m < L.length := by
      unfold plcT at hp
      split at hp
      · cases hp
      · exact plc_lt L _ _ m hp
    rw [List.length_set]
    intro hj
    rw [getD_set _ _ _ _ hm]
    split
    · simp only [upd]
      split
      · exact hk
      · exact h m hm
    · exact h j hj
  · intro hj
    rw [List.length_append, List.length_singleton] at hj
    rw [getD_more]
    split
    · rename_i h1; exact h j h1
    · rw [if_pos (by omega)]; exact hk
theorem ins_notesF {b : Nat} : ∀ (l : Ins) (L : List Nt) (i : Nat), l.size ≤ b → (∀ j, j < L.length → (L.getD j default).ins.size ≤ b) → ∀ j, j < (notesF L i l).length → ((notesF L i l).getD j default).ins.size ≤ b := by
  intro l
  induction l with
  | nil => intro L i _ h; exact h
  | cons a t s n h k r _ ihr =>
    intro L i hl hL
    simp only [Ins.size] at hl
    exact ihr _ _ (by omega) (ins_step hL i t k (by omega))
theorem ins_notes (l : Ins) : ∀ j, j < (notes l).length → ((notes l).getD j default).ins.size ≤ l.size := ins_notesF l [] 0 (Nat.le_refl _) (fun j h => by simp at h)
end Go.Proofs.YtibmemaciahofaaDoor.Note
namespace Go.Proofs.YtibmemaciahofaaDoor
open Go.RowKit Doc Note
set_option linter.unusedVariables false
theorem IEnc.cut {q : Nat → Prop} {w : World} : ∀ {A B : Ins} {xs : List Value}, IEnc q w (A.app B) xs → IEnc q w A (xs.take (A.len * 6)) := by
  intro A
  induction A with
  | nil => intro B xs _; simp [Ins.len, IEnc]
  | cons a t s n h k r _ ihr =>
    rintro B xs ⟨v, zs, rfl, h2, h3⟩
    refine ⟨v, zs.take (r.len * 6), ?_, h2, ihr h3⟩
    simp only [Ins.len]
    rw [show (r.len + 1) * 6 = r.len * 6 + 6 by omega]
    simp
/-- the first elements of a slice -/
theorem sl_cut {q : Nat → Prop} {w : World} {p : Option Addr} {n c : Nat} {A B : Ins} (h : insS.sl q w (.slice p n c) (A.app B)) : insS.sl q w (.slice p A.len c) A := by
  obtain ⟨p', c', h1, h2, h3, h4, h5⟩ := h
  injection h1 with e1 e2 e3
  subst e1 e2 e3
  have hl : insS.len (A.app B) = A.len + B.len := Ins.len_app A B
  refine ⟨p, c, rfl, by show A.len ≤ c; omega, h3, h4, ?_⟩
  by_cases h0 : A.len = 0
  · exact .inl h0
  · rcases h5 with h5 | ⟨b, o, ys, h5, h6, h7, h8, h9⟩
    · omega
    · refine .inr ⟨b, o, ys.take (A.len * 6), h5, h6, h7, fun i u hu => h8 i u ?_, IEnc.cut h9⟩
      rw [List.getElem?_take] at hu
      split at hu
      · exact hu
      · cases hu
end Go.Proofs.YtibmemaciahofaaDoor
namespace Go.Proofs.YtibmemaciahofaaDoor.Cont
open Doc
theorem contF_take (b : Bls) : ∀ L, (contF L b).take L.length = L ∧ L.length ≤ (contF L b).length := by
  induction b with
  | nil => intro L; exact ⟨List.take_length, Nat.le_refl _⟩
  | cons a l t i k r _ ihr =>
    intro L
    simp only [contF]
    split
    · obtain ⟨h1, h2⟩ := ihr (L ++ [ent L l i.plain])
      rw [List.length_append, List.length_singleton] at h1 h2
      refine ⟨?_, by omega⟩
      have h3 := congrArg (List.take L.length) h1
      rw [List.take_take, Nat.min_eq_left (by omega)] at h3
      rw [h3]
      simp
    · exact ihr L
theorem cont_take (a b : Bls) : (cont (a.app b)).take (cont a).length = cont a ∧ (cont a).length ≤ (cont (a.app b)).length := by
  unfold cont
  rw [contF_app]
  exact contF_take b _
end Go.Proofs.YtibmemaciahofaaDoor.Cont
