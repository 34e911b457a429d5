/-
  What written notes read as. No conditions.
-/
import Derived.Test.YtegcacnmcdkfiaaGreatDoorTc

namespace Go.Proofs.YtegcacnmcdkfiaaGreatDoor.Inl
open Go.RowKit Doc Tit
set_option linter.unusedVariables false

/-- one element alone -/
theorem read_elem {c : UInt8} {r : List UInt8} {x : Ins} (h : ev read c r = .elem x (c :: r).length) : read (c :: r) = x := by
  rw [read_goes, goes_cons, h]
  show (goes (start.add x) ((c :: r).drop (c :: r).length)).fin = x
  rw [List.drop_length, goes_nil]
  rfl
theorem prefix_append : ∀ (p s t : List UInt8), Lib.hasPrefix s p = true → Lib.hasPrefix (s ++ t) p = true
  | [], s, t, _ => by cases s <;> cases t <;> rfl
  | a :: p, [], t, h => by cases h
  | a :: p, b :: s, t, h => by
    rw [List.cons_append, hp_cons] at *
    rw [Bool.and_eq_true] at h ⊢
    exact ⟨h.1, prefix_append p s t h.2⟩
theorem prefix_take : ∀ (p s t : List UInt8), Lib.hasPrefix (s ++ t) p = true → p.length ≤ s.length → Lib.hasPrefix s p = true
  | [], s, t, _, _ => by cases s <;> rfl
  | a :: p, [], t, _, h => by simp at h
  | a :: p, b :: s, t, h, hl => by
    rw [List.cons_append, hp_cons] at h
    rw [hp_cons]
    rw [Bool.and_eq_true] at h ⊢
    exact ⟨h.1, prefix_take p s t h.2 (by simpa using hl)⟩
theorem prefix_at : ∀ (p s : List UInt8), Lib.hasPrefix s p = true → ∀ k, k < p.length → s[k]? = p[k]?
  | [], s, _, k, hk => by simp at hk
  | a :: p, [], h, _, _ => by cases h
  | a :: p, b :: s, h, k, hk => by
    rw [hp_cons, Bool.and_eq_true] at h
    cases k with
    | zero => simp [eq_of_beq h.1]
    | succ k => simpa using prefix_at p s h.2 k (by simpa using hk)
theorem index_cons (b : UInt8) (l sub : List UInt8) : Lib.index (b :: l) sub = if Lib.hasPrefix (b :: l) sub then 0 else if Lib.index l sub == -1 then -1 else Lib.index l sub + 1 := rfl
/-- a mark that begins nowhere but at its first byte stands behind a text in which it is not at that text's end -/
theorem index_behind (e : List UInt8) (he : e ≠ []) (hb : ∀ k, 0 < k → k < e.length → e[k]? ≠ e[0]?) : ∀ (s t : List UInt8), Lib.index s e = -1 → Lib.index (s ++ e ++ t) e = s.length
  | [], t, _ => by
    have h0 : Lib.hasPrefix (e ++ t) e = true := prefix_append e e t (by unfold Lib.hasPrefix; simp)
    rw [List.nil_append]
    cases e with
    | nil => exact absurd rfl he
    | cons a e => rw [List.cons_append] at h0 ⊢; rw [index_cons, if_pos h0]; rfl
  | c :: s, t, h => by
    rw [index_cons] at h
    by_cases hp : Lib.hasPrefix (c :: s) e = true
    · rw [if_pos hp] at h; omega
    rw [if_neg hp] at h
    have hs : Lib.index s e = -1 := by
      by_cases hs : Lib.index s e = -1
      · exact hs
      · rw [if_neg (by simpa using hs)] at h
        have := Lib.index_ge s e
        omega
    have ih := index_behind e he hb s t hs
    have hn : ¬ Lib.hasPrefix (c :: (s ++ e ++ t)) e = true := by
      intro hh
      have hh' : Lib.hasPrefix ((c :: s) ++ (e ++ t)) e = true := by simpa using hh
      by_cases hl : e.length ≤ (c :: s).length
      · exact hp (prefix_take e _ _ hh' hl)
      · have h1 := prefix_at e _ hh' (c :: s).length (by omega)
        have h2 : ((c :: s) ++ (e ++ t))[(c :: s).length]? = e[0]? := by
          rw [List.getElem?_append_right (Nat.le_refl _), Nat.sub_self]
          cases e with
          | nil => exact absurd rfl he
          | cons a e => rfl
        rw [h2] at h1
        exact hb _ (by simp) (by omega) h1.symm
    show Lib.index (c :: (s ++ e ++ t)) e = _
    rw [index_cons, if_neg hn, ih, if_neg (by simp)]
    simp
theorem index_end (s : List UInt8) (h : Lib.index s bEnd = -1) : Lib.index (s ++ bEnd) bEnd = s.length := by
  have hb : ∀ k, 0 < k → k < bEnd.length → bEnd[k]? ≠ bEnd[0]? := by
    intro k h1 h2
    have h3 : k < 6 := h2
    have : k = 1 ∨ k = 2 ∨ k = 3 ∨ k = 4 ∨ k = 5 := by omega
    rcases this with rfl | rfl | rfl | rfl | rfl <;> decide
  have := index_behind bEnd (by decide) hb s [] h
  rwa [List.append_nil] at this
theorem noteC_end (P : List UInt8 → Ins) (nm l s : List UInt8) (n : Nat) (hd : l.drop n = s ++ bEnd) (h1 : Lib.index s bEnd = -1) (h2 : Lib.index s bRef = -1) : noteC P nm n l = some (note nm (P s), n + s.length + 6) := by
  unfold noteC
  rw [hd, index_end s h1, if_neg (by simp)]
  have ht : (s ++ bEnd).take ((s.length : Int)).toNat = s := by simp
  simp only [ht]
  rw [if_neg (by simp [h2])]
theorem ev_note (P : List UInt8 → Ins) (r : List UInt8) (h : Lib.hasPrefix (60 :: r) bBr = false) : ev P 60 r = ofNote 60 (noteE P (60 :: r)) := by
  unfold ev
  rw [if_neg (by decide), if_pos rfl, if_neg (by rw [h]; decide)]
/-- "<ref>" .. "</ref>" -/
theorem read_ref {s : List UInt8} (h1 : Lib.index s bEnd = -1) (h2 : Lib.index s bRef = -1) : read (bRefG ++ s ++ bEnd) = note [] (read s) := by
  have hb : bRefG ++ s ++ bEnd = 60 :: (114 :: 101 :: 102 :: 62 :: (s ++ bEnd)) := rfl
  rw [hb]
  apply read_elem
  rw [ev_note read _ rfl]
  unfold noteE
  rw [if_pos (by simp [bRefG, Lib.hasPrefix]), noteC_end read [] _ s 5 rfl h1 h2]
  simp only [ofNote, List.length_cons, List.length_append]
  congr 1
  show 5 + s.length + 6 = _
  have : bEnd.length = 6 := rfl
  omega
theorem word_pl {c : UInt8} (h : word c = true) : pl c ∧ c ≠ 62 ∧ c ≠ 47 := by
  refine ⟨⟨?_, ?_, ?_, ?_⟩, ?_, ?_⟩ <;> (rintro rfl; revert h; decide)
theorem tw_word {nm : List UInt8} (h : ∀ c ∈ nm, word c = true) {x : UInt8} (hx : word x = false) (r : List UInt8) : (nm ++ x :: r).takeWhile word = nm := by
  rw [List.takeWhile_append_of_pos h, List.takeWhile_cons, hx]
  simp
theorem drop_word (nm r : List UInt8) : (nm ++ r).drop nm.length = r := by simp
/-- what stands behind "<ref name=" -/
theorem noteE_name (P : List UInt8 → Ins) (r : List UInt8) : noteE P (bRefN ++ r) =
    if (r.takeWhile word).length < 1 ∨ 30 < (r.takeWhile word).length then none
    else if Lib.hasPrefix (r.drop (r.takeWhile word).length) [47, 62] then some (note (r.takeWhile word) .nil, (r.takeWhile word).length + 12)
    else if (r.drop (r.takeWhile word).length).head? = some 62 then noteC P (r.takeWhile word) ((r.takeWhile word).length + 11) (bRefN ++ r) else none := by
  unfold noteE
  rw [if_neg (by simp [bRefG, bRefN, hp_cons]), if_pos (by simp [bRefN, Lib.hasPrefix])]
  rfl
theorem ev_name (P : List UInt8 → Ins) (r : List UInt8) : ev P 60 (([114, 101, 102, 32, 110, 97, 109, 101, 61] : List UInt8) ++ r) = ofNote 60 (noteE P (bRefN ++ r)) := by
  rw [ev_note P _ rfl]; rfl
theorem cons_name (r : List UInt8) : bRefN ++ r = 60 :: (([114, 101, 102, 32, 110, 97, 109, 101, 61] : List UInt8) ++ r) := rfl
theorem read_named {nm s : List UInt8} (hn : ∀ c ∈ nm, word c = true) (hl1 : 1 ≤ nm.length) (hl2 : nm.length ≤ 30) (h1 : Lib.index s bEnd = -1) (h2 : Lib.index s bRef = -1) :
    read (bRefN ++ nm ++ [62] ++ s ++ bEnd) = note nm (read s) := by
  have e : bRefN ++ nm ++ [62] ++ s ++ bEnd = bRefN ++ (nm ++ 62 :: (s ++ bEnd)) := by simp
  rw [e, cons_name]
  apply read_elem
  rw [ev_name, noteE_name, tw_word hn (by decide), drop_word, if_neg (by omega), if_neg (by simp [hp_cons]), if_pos (by rfl)]
  have hd : (bRefN ++ (nm ++ 62 :: (s ++ bEnd))).drop (nm.length + 11) = s ++ bEnd := by
    have e2 : bRefN ++ (nm ++ 62 :: (s ++ bEnd)) = (bRefN ++ nm ++ [62]) ++ (s ++ bEnd) := by simp
    rw [e2]
    have e3 : nm.length + 11 = (bRefN ++ nm ++ [62]).length := by simp [bRefN]
    rw [e3, List.drop_left]
  rw [noteC_end read nm _ s _ hd h1 h2]
  simp only [ofNote]
  congr 1
  rw [← cons_name]
  simp [bRefN, bEnd]
  omega
theorem read_again {nm : List UInt8} (hn : ∀ c ∈ nm, word c = true) (hl1 : 1 ≤ nm.length) (hl2 : nm.length ≤ 30) : read (bRefN ++ nm ++ [47, 62]) = note nm .nil := by
  have e : bRefN ++ nm ++ [47, 62] = bRefN ++ (nm ++ 47 :: [62]) := by simp
  rw [e, cons_name]
  apply read_elem
  rw [ev_name, noteE_name, tw_word hn (by decide), drop_word, if_neg (by omega), if_pos (by simp [Lib.hasPrefix])]
  simp only [ofNote]
  congr 1
  rw [← cons_name]
  simp [bRefN]
theorem read_long {nm : List UInt8} (hn : ∀ c ∈ nm, word c = true) (hl : 30 < nm.length) : read (bRefN ++ nm ++ [47, 62]) = txt (bRefN ++ nm ++ [47, 62]) := by
  have e : bRefN ++ nm ++ [47, 62] = bRefN ++ (nm ++ 47 :: [62]) := by simp
  have hev : ev read 60 (([114, 101, 102, 32, 110, 97, 109, 101, 61] : List UInt8) ++ (nm ++ 47 :: [62])) = .letter 60 1 := by
    rw [ev_name, noteE_name, tw_word hn (by decide), if_pos (.inr hl)]; rfl
  have hpl : ∀ c ∈ ([114, 101, 102, 32, 110, 97, 109, 101, 61] : List UInt8) ++ (nm ++ 47 :: [62]), pl c := by
    intro c hc
    rcases List.mem_append.1 hc with hc | hc
    · simp only [List.mem_cons, List.not_mem_nil, or_false] at hc
      rcases hc with rfl | rfl | rfl | rfl | rfl | rfl | rfl | rfl | rfl <;> (unfold pl; decide)
    rcases List.mem_append.1 hc with hc | hc
    · exact (word_pl (hn c hc)).1
    · simp only [List.mem_cons, List.not_mem_nil, or_false] at hc
      rcases hc with rfl | rfl <;> (unfold pl; decide)
  rw [e, read_goes, cons_name, goes_letter start hev]
  show (goes (start.letter 60) (([114, 101, 102, 32, 110, 97, 109, 101, 61] : List UInt8) ++ (nm ++ 47 :: [62]))).fin = _
  have hg := goes_pl _ [] (start.letter 60) hpl
  rw [List.append_nil, goes_nil] at hg
  rw [hg]
  simp [S.fin, start, S.letter, flush, endN, addTop, Ins.app]
end Go.Proofs.YtegcacnmcdkfiaaGreatDoor.Inl
