/-
  What texts without marks, texts between marks and written entities read as. No conditions.
  What written notes read as. No conditions.
-/
import Derived.Test.YthieinfonomeeaaGreatDoorAac

namespace Go.Proofs.YthieinfonomeeaaGreatDoor.Inl
open Go.RowKit Doc Tit
set_option linter.unusedVariables false

/-- a byte that begins no markup -/
def pl (c : UInt8) : Prop := c ≠ 91 ∧ c ≠ 60 ∧ c ≠ 38 ∧ c ≠ 39
theorem ev_pl (P : List UInt8 → Ins) {c : UInt8} {r : List UInt8} (h : pl c) : ev P c r = .letter c 1 := by
  obtain ⟨h1, h2, h3, h4⟩ := h
  unfold ev
  rw [if_neg h1, if_neg h2, if_neg h3, if_neg h4]
theorem goes_letter (s : S) {c x : UInt8} {r : List UInt8} {n : Nat} (h : ev read c r = .letter x n) : goes s (c :: r) = goes (s.letter x) ((c :: r).drop n) := by
  rw [goes_cons, h]; rfl
theorem goes_pl : ∀ (l r : List UInt8) (s : S), (∀ c ∈ l, pl c) → goes s (l ++ r) = goes ⟨s.stk, s.pend ++ l⟩ r
  | [], r, s, _ => by rw [List.append_nil]; rfl
  | c :: l, r, s, h => by
    rw [List.cons_append, goes_letter s (ev_pl read (h c List.mem_cons_self))]
    show goes _ (l ++ r) = _
    rw [goes_pl l r _ fun c hc => h c (List.mem_cons_of_mem _ hc)]
    simp [S.letter]
theorem read_pl {l : List UInt8} (h : ∀ c ∈ l, pl c) : read l = if l = [] then .nil else txt l := by
  rw [read_goes]
  have h1 := goes_pl l [] start h
  rw [List.append_nil] at h1
  rw [h1, goes_nil]
  split
  · rename_i e; subst e; rfl
  · rename_i e
    simp [S.fin, start, flush, e, endN, addTop, Ins.app]
theorem dec_pl : ∀ {l : List UInt8}, (∀ c ∈ l, c ≠ 38) → dec l = l
  | [], _ => rfl
  | c :: l, h => by
    rw [dec_none (ent_other (h c List.mem_cons_self)), dec_pl fun c hc => h c (List.mem_cons_of_mem _ hc)]
theorem tw_quotes : ∀ (n : Nat) (r : List UInt8), r.head? ≠ some 39 → ((List.replicate n 39 ++ r).takeWhile (fun c => decide (c = 39))).length = n
  | 0, [], _ => rfl
  | 0, c :: r, h => by
    have hc : c ≠ 39 := fun e => h (by rw [e]; rfl)
    simp [hc]
  | n + 1, r, h => by
    rw [List.replicate_succ, List.cons_append, List.takeWhile_cons_of_pos (by simp), List.length_cons, tw_quotes n r h]
theorem goes_quotes (s : S) (n : Nat) (hn : 2 ≤ n) (r : List UInt8) (h : r.head? ≠ some 39) : goes s (List.replicate n 39 ++ r) = goes (s.quotes n) r := by
  obtain ⟨k, rfl⟩ : ∃ k, n = k + 1 := ⟨n - 1, by omega⟩
  have h1 := tw_quotes (k + 1) r h
  have h2 : (List.replicate (k + 1) (39 : UInt8) ++ r).drop (k + 1) = r := by rw [List.drop_append]; simp
  rw [List.replicate_succ, List.cons_append] at h1 h2 ⊢
  rw [goes_cons]
  have he : ev read 39 (List.replicate k 39 ++ r) = .quotes (k + 1) := by
    unfold ev
    rw [if_neg (by decide), if_neg (by decide), if_neg (by decide), if_pos rfl, h1]
    unfold ofQuotes
    rw [if_neg (by omega)]
  rw [he]
  show goes _ (List.drop (k + 1) _) = _
  rw [h2]
  rfl
theorem head_pl {l : List UInt8} (h : ∀ c ∈ l, pl c) (hl : l ≠ []) (r : List UInt8) : (l ++ r).head? ≠ some 39 := by
  cases l with
  | nil => exact absurd rfl hl
  | cons c l =>
    intro e
    have := (h c List.mem_cons_self).2.2.2
    exact this (by simpa using e)
/-- quotes, plain text, quotes -/
theorem goes_three (n m : Nat) (hn : 2 ≤ n) (hm : 2 ≤ m) {l : List UInt8} (h : ∀ c ∈ l, pl c) (hl : l ≠ []) :
    goes start (List.replicate n 39 ++ l ++ List.replicate m 39) = (S.mk (start.quotes n).stk ((start.quotes n).pend ++ l)).quotes m := by
  rw [List.append_assoc, goes_quotes start n hn _ (head_pl h hl _), goes_pl l _ _ h]
  have := goes_quotes ⟨(start.quotes n).stk, (start.quotes n).pend ++ l⟩ m hm [] (by simp)
  rw [List.append_nil] at this
  rw [this, goes_nil]
theorem quotes_2 (st : Stk) (p : List UInt8) : (S.mk st p).quotes 2 = ⟨toggle 3 (flush st p), []⟩ := by simp [S.quotes, left, S.toggle]
theorem quotes_3 (st : Stk) (p : List UInt8) : (S.mk st p).quotes 3 = ⟨toggle 2 (flush st p), []⟩ := by simp [S.quotes, left, S.toggle]
theorem quotes_5 (st : Stk) (p : List UInt8) : (S.mk st p).quotes 5 = ⟨toggle 3 (toggle 2 (flush st p)), []⟩ := by simp [S.quotes, left, S.toggle, flush]
theorem quotes_more (st : Stk) (p : List UInt8) (n : Nat) : (S.mk st p).quotes (n + 5) = ⟨toggle 3 (toggle 2 (flush st (p ++ List.replicate n 39))), []⟩ := by
  have h : left (n + 5) = 5 := by unfold left; rw [if_neg (by omega)]; omega
  unfold S.quotes
  rw [h, Nat.add_sub_cancel]
  simp [S.toggle, flush]
theorem flush_nil (st : Stk) : flush st [] = st := rfl
theorem flush_txt {l : List UInt8} (hl : l ≠ []) (k : Int) (a : Ins) (r : Stk) : flush ((k, a) :: r) l = (k, a.app (txt l)) :: r := by simp [flush, hl, addTop]
theorem txt_ne (l : List UInt8) : (txt l).len = 1 := rfl
theorem toggle_new (k : Int) (hk : k ≠ 0) (a : Ins) : toggle k [(0, a)] = [(k, .nil), (0, a)] := by
  unfold toggle
  rw [later_ne (fun e => hk e.symm)]
  rfl
theorem toggle_out (k : Int) {x : Ins} (hx : x.len ≠ 0) (a : Ins) : toggle k [(k, x), (0, a)] = [(0, a.app (el k [] x))] := by
  unfold toggle
  rw [later_eq]
  simp [endN, endT, hx, addTop, reopen]
theorem toggle_empty (k : Int) (a : Ins) : toggle k [(k, .nil), (0, a)] = [(0, a)] := by
  unfold toggle
  rw [later_eq]
  simp [endN, endT, Ins.len, reopen]
/-- a text between marks -/
theorem read_bold {l : List UInt8} (h : ∀ c ∈ l, pl c) (hl : l ≠ []) : read ([39, 39, 39] ++ l ++ [39, 39, 39]) = el 2 [] (txt l) := by
  rw [read_goes]
  have h1 := goes_three 3 3 (by decide) (by decide) h hl
  have e : List.replicate 3 (39 : UInt8) = [39, 39, 39] := rfl
  rw [e] at h1
  rw [h1, start, quotes_3, quotes_3]
  simp only [flush_nil, List.nil_append, toggle_new 2 (by decide), flush_txt hl, Ins.app, toggle_out 2 (x := txt l) (by rw [txt_ne]; decide)]
  rfl
theorem read_italic {l : List UInt8} (h : ∀ c ∈ l, pl c) (hl : l ≠ []) : read ([39, 39] ++ l ++ [39, 39]) = el 3 [] (txt l) := by
  rw [read_goes]
  have h1 := goes_three 2 2 (by decide) (by decide) h hl
  have e : List.replicate 2 (39 : UInt8) = [39, 39] := rfl
  rw [e] at h1
  rw [h1, start, quotes_2, quotes_2]
  simp only [flush_nil, List.nil_append, toggle_new 3 (by decide), flush_txt hl, Ins.app, toggle_out 3 (x := txt l) (by rw [txt_ne]; decide)]
  rfl
theorem read_open {l : List UInt8} (h : ∀ c ∈ l, pl c) (hl : l ≠ []) : read ([39, 39] ++ l) = el 3 [] (txt l) := by
  rw [read_goes]
  have h0 := goes_quotes start 2 (by decide) (l ++ []) (head_pl h hl _)
  have e : List.replicate 2 (39 : UInt8) = [39, 39] := rfl
  rw [e, goes_pl l [] _ h, List.append_nil, goes_nil] at h0
  rw [h0, start, quotes_2]
  simp only [flush_nil, List.nil_append, toggle_new 3 (by decide)]
  simp [S.fin, flush_txt hl, endN, endT, Ins.app, addTop, txt_ne]
theorem toggle_both (l : List UInt8) (a : Ins) : toggle 3 (toggle 2 [(3, txt l), (2, .nil), (0, a)]) = [(0, a.app (el 2 [] (el 3 [] (txt l))))] := by
  have h : toggle 2 [(3, txt l), (2, .nil), (0, a)] = [(3, .nil), (0, a.app (el 2 [] (el 3 [] (txt l))))] := by
    unfold toggle
    rw [later_ne (by decide), later_eq]
    simp [endN, endT, txt_ne, addTop, reopen, Ins.app, el_len]
  rw [h, toggle_empty]
theorem toggle_33 (a : Ins) : toggle 3 (toggle 2 [(0, a)]) = [(3, .nil), (2, .nil), (0, a)] := by
  rw [toggle_new 2 (by decide)]
  unfold toggle
  rw [later_ne (by decide), later_ne (by decide)]
  rfl
theorem read_both {l : List UInt8} (h : ∀ c ∈ l, pl c) (hl : l ≠ []) : read ([39, 39, 39, 39, 39] ++ l ++ [39, 39, 39, 39, 39]) = el 2 [] (el 3 [] (txt l)) := by
  rw [read_goes]
  have h1 := goes_three 5 5 (by decide) (by decide) h hl
  have e : List.replicate 5 (39 : UInt8) = [39, 39, 39, 39, 39] := rfl
  rw [e] at h1
  rw [h1, start, quotes_5, quotes_5]
  simp only [flush_nil, List.nil_append, toggle_33, flush_txt hl, Ins.app, toggle_both]
  rfl
theorem read_more (n : Nat) {l : List UInt8} (h : ∀ c ∈ l, pl c) (hl : l ≠ []) : read (List.replicate (n + 1 + 5) 39 ++ l ++ [39, 39, 39, 39, 39]) = (txt (List.replicate (n + 1) 39)).app (el 2 [] (el 3 [] (txt l))) := by
  rw [read_goes]
  have h1 := goes_three (n + 1 + 5) 5 (by omega) (by decide) h hl
  have e : List.replicate 5 (39 : UInt8) = [39, 39, 39, 39, 39] := rfl
  have hr : List.replicate (n + 1) (39 : UInt8) ≠ [] := by simp
  rw [e] at h1
  rw [h1, start, quotes_more _ _ (n + 1), quotes_5, List.nil_append, flush_txt hr]
  simp only [List.nil_append, toggle_33, flush_txt hl, Ins.app, toggle_both]
  rfl

/-! ### Written entities -/
/-- "&#", three digits, ";" -/
def ent3 (c : UInt8) : List UInt8 := [38, 35, UInt8.ofNat (48 + c.toNat / 100), UInt8.ofNat (48 + c.toNat / 10 % 10), UInt8.ofNat (48 + c.toNat % 10), 59]
def ents : List UInt8 → List UInt8
  | [] => []
  | c :: l => ent3 c ++ ents l
theorem ents_snoc : ∀ (l : List UInt8) (c : UInt8), ents (l ++ [c]) = ents l ++ ent3 c
  | [], c => by simp [ents]
  | a :: l, c => by simp [ents, ents_snoc l c]
theorem ents_len : ∀ l : List UInt8, (ents l).length = 6 * l.length
  | [] => rfl
  | c :: l => by simp [ents, ent3, ents_len l]; omega
theorem entN_3 {a b c : UInt8} {r : List UInt8} (ha : dg a = true) (hb : dg b = true) (hc : dg c = true) (h1 : 1 ≤ num [a, b, c]) (h2 : num [a, b, c] ≤ 255) :
    entN (a :: b :: c :: 59 :: r) = some (UInt8.ofNat (num [a, b, c]), 6) := by
  have e : (a :: b :: c :: 59 :: r).takeWhile dg = [a, b, c] := by
    simp [List.takeWhile_cons, ha, hb, hc]
    decide
  unfold entN
  rw [e, if_pos ⟨by simp, by simp, by simp, h1, h2⟩]
  rfl
theorem ent_ent3 (c : UInt8) (hc : c ≠ 0) (r : List UInt8) : ent (ent3 c ++ r) = some (c, 6) := by
  have hn : c.toNat < 256 := c.toNat_lt
  have h0 : c.toNat ≠ 0 := fun e => hc (by rw [← UInt8.ofNat_toNat (x := c), e]; rfl)
  have e1 : ∀ k : Nat, k ≤ 9 → (UInt8.ofNat (48 + k)).toNat = 48 + k := fun k hk => by rw [UInt8.toNat_ofNat']; omega
  have d1 : ∀ k : Nat, k ≤ 9 → dg (UInt8.ofNat (48 + k)) = true := fun k hk => by
    rw [dg_eq, e1 k hk]; simp; omega
  have en : num [UInt8.ofNat (48 + c.toNat / 100), UInt8.ofNat (48 + c.toNat / 10 % 10), UInt8.ofNat (48 + c.toNat % 10)] = c.toNat := by
    simp only [num, List.foldl_cons, List.foldl_nil, e1 _ (show c.toNat / 100 ≤ 9 by omega), e1 _ (show c.toNat / 10 % 10 ≤ 9 by omega), e1 _ (show c.toNat % 10 ≤ 9 by omega)]
    omega
  show ent (38 :: 35 :: _) = _
  have hx := entN_3 (r := r) (d1 _ (show c.toNat / 100 ≤ 9 by omega)) (d1 _ (show c.toNat / 10 % 10 ≤ 9 by omega)) (d1 _ (show c.toNat % 10 ≤ 9 by omega)) (by rw [en]; omega) (by rw [en]; omega)
  rw [en, UInt8.ofNat_toNat] at hx
  unfold ent eLt eGt eAmp eQuot
  rw [if_neg (by simp [hp_cons]), if_neg (by simp [hp_cons]), if_neg (by simp [hp_cons]), if_neg (by simp [hp_cons]), if_pos (by simp [Lib.hasPrefix])]
  exact hx
theorem drop_ent3 (c : UInt8) (r : List UInt8) : (ent3 c ++ r).drop 6 = r := rfl
theorem goes_ents : ∀ (l : List UInt8) (s : S), (∀ c ∈ l, c ≠ 0) → goes s (ents l) = ⟨s.stk, s.pend ++ l⟩
  | [], s, _ => by simp [ents, goes_nil]
  | c :: l, s, h => by
    have he := ent_ent3 c (h c List.mem_cons_self) (ents l)
    have hd := drop_ent3 c (ents l)
    have hv : ev read 38 ((ent3 c ++ ents l).tail) = .letter c 6 := by
      unfold ev
      rw [if_neg (by decide), if_neg (by decide), if_pos rfl]
      show ofEnt 38 (ent (ent3 c ++ ents l)) = _
      rw [he]; rfl
    have hg := goes_letter s hv
    show goes s (ent3 c ++ ents l) = _
    have hs : ent3 c ++ ents l = 38 :: (ent3 c ++ ents l).tail := rfl
    rw [hs, hg, ← hs, hd, goes_ents l _ fun c hc => h c (List.mem_cons_of_mem _ hc)]
    simp [S.letter]
theorem read_ents {l : List UInt8} (h : ∀ c ∈ l, c ≠ 0) : read (ents l) = if l = [] then .nil else txt l := by
  rw [read_goes, goes_ents l _ h]
  split
  · rename_i e; subst e; rfl
  · rename_i e
    simp [S.fin, start, flush, e, endN, addTop, Ins.app]
theorem dec_ents : ∀ {l : List UInt8}, (∀ c ∈ l, c ≠ 0) → dec (ents l) = l
  | [], _ => rfl
  | c :: l, h => by
    show dec (ent3 c ++ ents l) = _
    rw [dec_some (ent_ent3 c (h c List.mem_cons_self) _), drop_ent3, dec_ents fun c hc => h c (List.mem_cons_of_mem _ hc)]
end Go.Proofs.YthieinfonomeeaaGreatDoor.Inl

namespace Go.Proofs.YthieinfonomeeaaGreatDoor.Inl
open Go.RowKit Doc Tit
set_option linter.unusedVariables false

/-- one element alone -/
theorem read_elem {c : UInt8} {r : List UInt8} {x : Ins} (h : ev read c r = .elem x (c :: r).length) : read (c :: r) = x := by
  rw [read_goes, goes_cons, h]
  show (goes (start.add x) ((c :: r).drop (c :: r).length)).fin = x
  rw [List.drop_length, goes_nil]
  rfl
theorem prefix_append : ∀ (p s t : List UInt8), Lib.hasPrefix s p = true → Lib.hasPrefix (s ++ t) p = true
  | [], s, t, _ => by cases s <;> cases t <;> rfl
  | a :: p, [], t, h => by cases h
  | a :: p, b :: s, t, h => by
    rw [List.cons_append, hp_cons] at *
    rw [Bool.and_eq_true] at h ⊢
    exact ⟨h.1, prefix_append p s t h.2⟩
theorem prefix_take : ∀ (p s t : List UInt8), Lib.hasPrefix (s ++ t) p = true → p.length ≤ s.length → Lib.hasPrefix s p = true
  | [], s, t, _, _ => by cases s <;> rfl
  | a :: p, [], t, _, h => by simp at h
  | a :: p, b :: s, t, h, hl => by
    rw [List.cons_append, hp_cons] at h
    rw [hp_cons]
    rw [Bool.and_eq_true] at h ⊢
    exact ⟨h.1, prefix_take p s t h.2 (by simpa using hl)⟩
theorem prefix_at : ∀ (p s : List UInt8), Lib.hasPrefix s p = true → ∀ k, k < p.length → s[k]? = p[k]?
  | [], s, _, k, hk => by simp at hk
  | a :: p, [], h, _, _ => by cases h
  | a :: p, b :: s, h, k, hk => by
    rw [hp_cons, Bool.and_eq_true] at h
    cases k with
    | zero => simp [eq_of_beq h.1]
    | succ k => simpa using prefix_at p s h.2 k (by simpa using hk)
theorem index_cons (b : UInt8) (l sub : List UInt8) : Lib.index (b :: l) sub = if Lib.hasPrefix (b :: l) sub then 0 else if Lib.index l sub == -1 then -1 else Lib.index l sub + 1 := rfl
/-- a mark that begins nowhere but at its first byte stands behind a text in which it is not at that text's end -/
theorem index_behind (e : List UInt8) (he : e ≠ []) (hb : ∀ k, 0 < k → k < e.length → e[k]? ≠ e[0]?) : ∀ (s t : List UInt8), Lib.index s e = -1 → Lib.index (s ++ e ++ t) e = s.length
  | [], t, _ => by
    have h0 : Lib.hasPrefix (e ++ t) e = true := prefix_append e e t (by unfold Lib.hasPrefix; simp)
    rw [List.nil_append]
    cases e with
    | nil => exact absurd rfl he
    | cons a e => rw [List.cons_append] at h0 ⊢; rw [index_cons, if_pos h0]; rfl
  | c :: s, t, h => by
    rw [index_cons] at h
    by_cases hp : Lib.hasPrefix (c :: s) e = true
    · rw [if_pos hp] at h; omega
    rw [if_neg hp] at h
    have hs : Lib.index s e = -1 := by
      by_cases hs : Lib.index s e = -1
      · exact hs
      · rw [if_neg (by simpa using hs)] at h
        have := Lib.index_ge s e
        omega
    have ih := index_behind e he hb s t hs
    have hn : ¬ Lib.hasPrefix (c :: (s ++ e ++ t)) e = true := by
      intro hh
      have hh' : Lib.hasPrefix ((c :: s) ++ (e ++ t)) e = true := by simpa using hh
      by_cases hl : e.length ≤ (c :: s).length
      · exact hp (prefix_take e _ _ hh' hl)
      · have h1 := prefix_at e _ hh' (c :: s).length (by omega)
        have h2 : ((c :: s) ++ (e ++ t))[(c :: s).length]? = e[0]? := by
          rw [List.getElem?_append_right (Nat.le_refl _), Nat.sub_self]
          cases e with
          | nil => exact absurd rfl he
          | cons a e => rfl
        rw [h2] at h1
        exact hb _ (by simp) (by omega) h1.symm
    show Lib.index (c :: (s ++ e ++ t)) e = _
    rw [index_cons, if_neg hn, ih, if_neg (by simp)]
    simp
theorem index_end (s : List UInt8) (h : Lib.index s bEnd = -1) : Lib.index (s ++ bEnd) bEnd = s.length := by
  have hb : ∀ k, 0 < k → k < bEnd.length → bEnd[k]? ≠ bEnd[0]? := by
    intro k h1 h2
    have h3 : k < 6 := h2
    have : k = 1 ∨ k = 2 ∨ k = 3 ∨ k = 4 ∨ k = 5 := by omega
    rcases this with rfl | rfl | rfl | rfl | rfl <;> decide
  have := index_behind bEnd (by decide) hb s [] h
  rwa [List.append_nil] at this
theorem noteC_end (P : List UInt8 → Ins) (nm l s : List UInt8) (n : Nat) (hd : l.drop n = s ++ bEnd) (h1 : Lib.index s bEnd = -1) (h2 : Lib.index s bRef = -1) : noteC P nm n l = some (note nm (P s), n + s.length + 6) := by
  unfold noteC
  rw [hd, index_end s h1, if_neg (by simp)]
  have ht : (s ++ bEnd).take ((s.length : Int)).toNat = s := by simp
  simp only [ht]
  rw [if_neg (by simp [h2])]
theorem ev_note (P : List UInt8 → Ins) (r : List UInt8) (h : Lib.hasPrefix (60 :: r) bBr = false) : ev P 60 r = ofNote 60 (noteE P (60 :: r)) := by
  unfold ev
  rw [if_neg (by decide), if_pos rfl, if_neg (by rw [h]; decide)]
/-- "<ref>" .. "</ref>" -/
theorem read_ref {s : List UInt8} (h1 : Lib.index s bEnd = -1) (h2 : Lib.index s bRef = -1) : read (bRefG ++ s ++ bEnd) = note [] (read s) := by
  have hb : bRefG ++ s ++ bEnd = 60 :: (114 :: 101 :: 102 :: 62 :: (s ++ bEnd)) := rfl
  rw [hb]
  apply read_elem
  rw [ev_note read _ rfl]
  unfold noteE
  rw [if_pos (by simp [bRefG, Lib.hasPrefix]), noteC_end read [] _ s 5 rfl h1 h2]
  simp only [ofNote, List.length_cons, List.length_append]
  congr 1
  show 5 + s.length + 6 = _
  have : bEnd.length = 6 := rfl
  omega
theorem word_pl {c : UInt8} (h : word c = true) : pl c ∧ c ≠ 62 ∧ c ≠ 47 := by
  refine ⟨⟨?_, ?_, ?_, ?_⟩, ?_, ?_⟩ <;> (rintro rfl; revert h; decide)
theorem tw_word {nm : List UInt8} (h : ∀ c ∈ nm, word c = true) {x : UInt8} (hx : word x = false) (r : List UInt8) : (nm ++ x :: r).takeWhile word = nm := by
  rw [List.takeWhile_append_of_pos h, List.takeWhile_cons, hx]
  simp
theorem drop_word (nm r : List UInt8) : (nm ++ r).drop nm.length = r := by simp
/-- what stands behind "<ref name=" -/
theorem noteE_name (P : List UInt8 → Ins) (r : List UInt8) : noteE P (bRefN ++ r) =
    if (r.takeWhile word).length < 1 ∨ 30 < (r.takeWhile word).length then none
    else if Lib.hasPrefix (r.drop (r.takeWhile word).length) [47, 62] then some (note (r.takeWhile word) .nil, (r.takeWhile word).length + 12)
    else if (r.drop (r.takeWhile word).length).head? = some 62 then noteC P (r.takeWhile word) ((r.takeWhile word).length + 11) (bRefN ++ r) else none := by
  unfold noteE
  rw [if_neg (by simp [bRefG, bRefN, hp_cons]), if_pos (by simp [bRefN, Lib.hasPrefix])]
  rfl
theorem ev_name (P : List UInt8 → Ins) (r : List UInt8) : ev P 60 (([114, 101, 102, 32, 110, 97, 109, 101, 61] : List UInt8) ++ r) = ofNote 60 (noteE P (bRefN ++ r)) := by
  rw [ev_note P _ rfl]; rfl
theorem cons_name (r : List UInt8) : bRefN ++ r = 60 :: (([114, 101, 102, 32, 110, 97, 109, 101, 61] : List UInt8) ++ r) := rfl
theorem read_named {nm s : List UInt8} (hn : ∀ c ∈ nm, word c = true) (hl1 : 1 ≤ nm.length) (hl2 : nm.length ≤ 30) (h1 : Lib.index s bEnd = -1) (h2 : Lib.index s bRef = -1) :
    read (bRefN ++ nm ++ [62] ++ s ++ bEnd) = note nm (read s) := by
  have e : bRefN ++ nm ++ [62] ++ s ++ bEnd = bRefN ++ (nm ++ 62 :: (s ++ bEnd)) := by simp
  rw [e, cons_name]
  apply read_elem
  rw [ev_name, noteE_name, tw_word hn (by decide), drop_word, if_neg (by omega), if_neg (by simp [hp_cons]), if_pos (by rfl)]
  have hd : (bRefN ++ (nm ++ 62 :: (s ++ bEnd))).drop (nm.length + 11) = s ++ bEnd := by
    have e2 : bRefN ++ (nm ++ 62 :: (s ++ bEnd)) = (bRefN ++ nm ++ [62]) ++ (s ++ bEnd) := by simp
    rw [e2]
    have e3 : nm.length + 11 = (bRefN ++ nm ++ [62]).length := by simp [bRefN]
    rw [e3, List.drop_left]
  rw [noteC_end read nm _ s _ hd h1 h2]
  simp only [ofNote]
  congr 1
  rw [← cons_name]
  simp [bRefN, bEnd]
  omega
theorem read_again {nm : List UInt8} (hn : ∀ c ∈ nm, word c = true) (hl1 : 1 ≤ nm.length) (hl2 : nm.length ≤ 30) : read (bRefN ++ nm ++ [47, 62]) = note nm .nil := by
  have e : bRefN ++ nm ++ [47, 62] = bRefN ++ (nm ++ 47 :: [62]) := by simp
  rw [e, cons_name]
  apply read_elem
  rw [ev_name, noteE_name, tw_word hn (by decide), drop_word, if_neg (by omega), if_pos (by simp [Lib.hasPrefix])]
  simp only [ofNote]
  congr 1
  rw [← cons_name]
  simp [bRefN]
theorem read_long {nm : List UInt8} (hn : ∀ c ∈ nm, word c = true) (hl : 30 < nm.length) : read (bRefN ++ nm ++ [47, 62]) = txt (bRefN ++ nm ++ [47, 62]) := by
  have e : bRefN ++ nm ++ [47, 62] = bRefN ++ (nm ++ 47 :: [62]) := by simp
  have hev : ev read 60 (([114, 101, 102, 32, 110, 97, 109, 101, 61] : List UInt8) ++ (nm ++ 47 :: [62])) = .letter 60 1 := by
    rw [ev_name, noteE_name, tw_word hn (by decide), if_pos (.inr hl)]; rfl
  have hpl : ∀ c ∈ ([114, 101, 102, 32, 110, 97, 109, 101, 61] : List UInt8) ++ (nm ++ 47 :: [62]), pl c := by
    intro c hc
    rcases List.mem_append.1 hc with hc | hc
    · simp only [List.mem_cons, List.not_mem_nil, or_false] at hc
      rcases hc with rfl | rfl | rfl | rfl | rfl | rfl | rfl | rfl | rfl <;> (unfold pl; decide)
    rcases List.mem_append.1 hc with hc | hc
    · exact (word_pl (hn c hc)).1
    · simp only [List.mem_cons, List.not_mem_nil, or_false] at hc
      rcases hc with rfl | rfl <;> (unfold pl; decide)
  rw [e, read_goes, cons_name, goes_letter start hev]
  show (goes (start.letter 60) (([114, 101, 102, 32, 110, 97, 109, 101, 61] : List UInt8) ++ (nm ++ 47 :: [62]))).fin = _
  have hg := goes_pl _ [] (start.letter 60) hpl
  rw [List.append_nil, goes_nil] at hg
  rw [hg]
  simp [S.fin, start, S.letter, flush, endN, addTop, Ins.app]
end Go.Proofs.YthieinfonomeeaaGreatDoor.Inl
