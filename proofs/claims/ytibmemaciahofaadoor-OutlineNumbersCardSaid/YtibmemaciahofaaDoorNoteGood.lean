/-
  What holds of the list of footnotes: each use is a mark of the note's name, and so on. No conditions but those typed.
-/
import Derived.Test.YtibmemaciahofaaDoorNoteMem
namespace Go.Proofs.YtibmemaciahofaaDoor.Doc
/-- the text of an element -/
def Ins.txt : Ins → Nat → ByteArray
  | .nil, _ => ⟨#[]⟩
  | .cons _ t _ _ _ _ _, 0 => t
  | .cons _ _ _ _ _ _ r, j + 1 => r.txt j
end Go.Proofs.YtibmemaciahofaaDoor.Doc
namespace Go.Proofs.YtibmemaciahofaaDoor.Note
open Doc
theorem getD_snoc (us : List Nat) (x k : Nat) : (us ++ [x]).getD k 0 = if k < us.length then us.getD k 0 else if k = us.length then x else 0 := by
  by_cases h : k < us.length
  · simp [List.getD, List.getElem?_append_left h, h]
  · by_cases h2 : k = us.length
    · subst h2; simp [List.getD]
    · rw [if_neg h, if_neg h2]
      simp only [List.getD]
      rw [List.getElem?_eq_none (by simp; omega)]
      rfl
theorem getD_more (L : List Nt) (x : Nt) (k : Nat) : (L ++ [x]).getD k default = if k < L.length then L.getD k default else if k = L.length then x else default := by
  by_cases h : k < L.length
  · simp [List.getD, List.getElem?_append_left h, h]
  · by_cases h2 : k = L.length
    · subst h2; simp [List.getD]
    · rw [if_neg h, if_neg h2]
      simp only [List.getD]
      rw [List.getElem?_eq_none (by simp; omega)]
      rfl
theorem plc_name (L : List Nt) (t : List UInt8) : ∀ k m, plc L t k = some m → (L.getD m default).name.data.toList = t
  | 0, m, h => by cases h
  | k + 1, m, h => by
    unfold plc at h
    split at h
    · injection h with h; subst h; assumption
    · exact plc_name L t k m h
/-- each use is a mark of the note's name; the uses go up; the first uses go up -/
structure Good (T : Nat → ByteArray) (n : Nat) (L : List Nt) : Prop where
  use : ∀ j, j < L.length → ∀ k, k < (L.getD j default).uses.length → 1 ≤ (L.getD j default).uses.getD k 0 ∧ (L.getD j default).uses.getD k 0 ≤ n ∧ T ((L.getD j default).uses.getD k 0 - 1) = (L.getD j default).name
  up : ∀ j, j < L.length → ∀ k, k + 1 < (L.getD j default).uses.length → (L.getD j default).uses.getD k 0 < (L.getD j default).uses.getD (k + 1) 0
  ne : ∀ j, j < L.length → 0 < (L.getD j default).uses.length
  one : ∀ j, j < L.length → (L.getD j default).name.data.toList = [] → (L.getD j default).uses.length = 1
  head : ∀ j, j + 1 < L.length → (L.getD j default).uses.getD 0 0 < (L.getD (j + 1) default).uses.getD 0 0
theorem Good.nil (T : Nat → ByteArray) : Good T 0 [] := ⟨fun j h => by simp at h, fun j h => by simp at h, fun j h => by simp at h, fun j h => by simp at h, fun j h => by simp at h⟩
theorem Good.step {T : Nat → ByteArray} {n : Nat} {L : List Nt} (h : Good T n L) {t : ByteArray} (ht : T n = t) (k : Ins) : Good T (n + 1) (nstep L n t k) := by
  unfold nstep
  split
  · rename_i m hp
    unfold plcT at hp
    split at hp
    · cases hp
    rename_i hne
    have hm := plc_lt _ _ _ _ hp
    have hnm := plc_name _ _ _ _ hp
    have hname : (L.getD m default).name = t := ByteArray.ext (Array.toList_inj.1 hnm)
    have hnz := h.ne m hm
    refine ⟨?_, ?_, ?_, ?_, ?_⟩
    · intro j hj i hi
      rw [List.length_set] at hj
      rw [getD_set _ _ _ _ hm] at hi ⊢
      by_cases e : j = m
      · rw [if_pos e] at hi ⊢
        simp only [upd, List.length_append, List.length_singleton] at hi ⊢
        rw [getD_snoc]
        by_cases e2 : i < (L.getD m default).uses.length
        · rw [if_pos e2]
          obtain ⟨h1, h2, h3⟩ := h.use m hm i e2
          exact ⟨h1, by omega, h3⟩
        · rw [if_neg e2, if_pos (by omega)]
          exact ⟨by omega, by omega, by rw [Nat.add_sub_cancel, ht, hname]⟩
      · rw [if_neg e] at hi ⊢
        obtain ⟨h1, h2, h3⟩ := h.use j hj i hi
        exact ⟨h1, by omega, h3⟩
    · intro j hj i hi
      rw [List.length_set] at hj
      rw [getD_set _ _ _ _ hm] at hi ⊢
      by_cases e : j = m
      · rw [if_pos e] at hi ⊢
        simp only [upd, List.length_append, List.length_singleton] at hi ⊢
        rw [getD_snoc, getD_snoc, if_pos (by omega)]
        by_cases e2 : i + 1 < (L.getD m default).uses.length
        · rw [if_pos e2]; exact h.up m hm i e2
        · rw [if_neg e2, if_pos (by omega)]
          have := (h.use m hm i (by omega)).2.1
          omega
      · rw [if_neg e] at hi ⊢
        exact h.up j hj i hi
    · intro j hj
      rw [List.length_set] at hj
      rw [getD_set _ _ _ _ hm]
      split
      · simp [upd]
      · exact h.ne j hj
    · intro j hj
      rw [List.length_set] at hj
      rw [getD_set _ _ _ _ hm]
      split
      · intro h0
        exact absurd (hnm.symm.trans h0) hne
      · exact h.one j hj
    · intro j hj
      rw [List.length_set] at hj
      have hh := h.head j hj
      have key : ∀ x, x < L.length → ((L.set m (upd (L.getD m default) (n + 1) k)).getD x default).uses.getD 0 0 = (L.getD x default).uses.getD 0 0 := by
        intro x hx
        rw [getD_set _ _ _ _ hm]
        split
        · rename_i e
          simp only [upd]
          rw [getD_snoc, if_pos hnz, e]
        · rfl
      rw [key j (by omega), key (j + 1) hj]
      exact hh
  · have hl : (L ++ [(⟨t, k, [n + 1]⟩ : Nt)]).length = L.length + 1 := by simp
    refine ⟨?_, ?_, ?_, ?_, ?_⟩
    · intro j hj i hi
      rw [hl] at hj
      rw [getD_more] at hi ⊢
      by_cases e : j < L.length
      · rw [if_pos e] at hi ⊢
        obtain ⟨h1, h2, h3⟩ := h.use j e i hi
        exact ⟨h1, by omega, h3⟩
      · rw [if_neg e, if_pos (by omega)] at hi ⊢
        obtain rfl : i = 0 := by simpa using hi
        exact ⟨by simp, by simp, by simpa using ht⟩
    · intro j hj i hi
      rw [hl] at hj
      rw [getD_more] at hi ⊢
      by_cases e : j < L.length
      · rw [if_pos e] at hi ⊢
        exact h.up j e i hi
      · rw [if_neg e, if_pos (by omega)] at hi
        simp at hi
    · intro j hj
      rw [hl] at hj
      rw [getD_more]
      by_cases e : j < L.length
      · rw [if_pos e]; exact h.ne j e
      · rw [if_neg e, if_pos (by omega)]; simp
    · intro j hj
      rw [hl] at hj
      rw [getD_more]
      by_cases e : j < L.length
      · rw [if_pos e]; exact h.one j e
      · rw [if_neg e, if_pos (by omega)]; intro _; rfl
    · intro j hj
      rw [hl] at hj
      rw [getD_more, getD_more, if_pos (show j < L.length by omega)]
      by_cases e : j + 1 < L.length
      · rw [if_pos e]; exact h.head j e
      · rw [if_neg e, if_pos (by omega)]
        have := (h.use j (by omega) 0 (h.ne j (by omega))).2.1
        show _ < n + 1
        omega
theorem good_notesF {T : Nat → ByteArray} : ∀ (l : Ins) (L : List Nt) (i : Nat), Good T i L → (∀ j, j < l.len → T (i + j) = l.txt j) → Good T (i + l.len) (notesF L i l) := by
  intro l
  induction l with
  | nil => intro L i h _; exact h
  | cons a t s n h k r _ ihr =>
    intro L i hG hT
    simp only [notesF, Ins.len]
    rw [show i + (r.len + 1) = i + 1 + r.len by omega]
    refine ihr _ _ (hG.step (hT 0 (by simp only [Ins.len]; omega)) k) fun j hj => ?_
    rw [show i + 1 + j = i + (j + 1) by omega]
    exact hT (j + 1) (by simp only [Ins.len]; omega)
theorem good_notes (l : Ins) : Good l.txt l.len (notes l) := by
  have := good_notesF (T := l.txt) l [] 0 (Good.nil _) (fun j hj => by rw [Nat.zero_add])
  rwa [Nat.zero_add] at this
theorem total_notes (l : Ins) : total (notes l) = l.len := by
  unfold notes
  rw [notesF_total]
  simp [total]
/-- how many uses the first i notes have -/
def tot (L : List Nt) (i : Nat) : Nat := ((L.take i).map fun n => n.uses.length).sum
theorem tot_succ (L : List Nt) (i : Nat) (hi : i < L.length) : tot L (i + 1) = tot L i + (L.getD i default).uses.length := by
  unfold tot
  rw [List.take_add_one, List.map_append, List.sum_append]
  simp [List.getElem?_eq_getElem hi, List.getD]
theorem tot_all (L : List Nt) : tot L L.length = total L := by unfold tot total; rw [List.take_length]
end Go.Proofs.YtibmemaciahofaaDoor.Note
