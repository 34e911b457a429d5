/-
  Which forms the elements have that a text reads as. No conditions.
-/
import Derived.Test.YtegcacnmcdkfiaaGreatDoorTc

namespace Go.Proofs.YtegcacnmcdkfiaaGreatDoor.Inl
open Go.RowKit Doc Tit
set_option linter.unusedVariables false

/-- what may stand as an element of kind k, under bold b and italic i -/
def okK (k : Int) (t : ByteArray) (n : Nat) (b i sub2 sub3 sub0 : Bool) : Bool :=
  if k = 2 then !b && decide (n ≠ 0) && sub2 else if k = 3 then !i && decide (n ≠ 0) && sub3 else if k = 4 then sub0 else if k = 5 then sub0
  else if k = 1 then decide (t.data.toList ≠ []) && decide (n = 0) else if k = 6 then decide (t.data.toList = []) && decide (n = 0) else false
def shal : Bool → Bool → Ins → Bool
  | _, _, .nil => true
  | b, i, .cons k t _ _ _ kids r => okK k t kids.len b i (shal true i kids) (shal b true kids) (shal false false kids) && shal b i r
def tgtK (k s : Int) (n h : ByteArray) : Bool := !(k == 4) || valid s n.data.toList || (decide (s = 0) && decide (n.data.toList = []) && decide (h.data.toList ≠ []))
def tgt : Ins → Bool
  | .nil => true
  | .cons k _ s n h kids r => tgtK k s n h && tgt kids && tgt r
def good (b i : Bool) (L : Ins) : Prop := shal b i L = true ∧ tgt L = true
theorem shal_app (b i : Bool) : ∀ (A B : Ins), shal b i (A.app B) = (shal b i A && shal b i B)
  | .nil, B => rfl
  | .cons k t s n h kids r, B => by rw [Ins.app, shal, shal, shal_app b i r B, Bool.and_assoc]
theorem tgt_app : ∀ (A B : Ins), tgt (A.app B) = (tgt A && tgt B)
  | .nil, B => rfl
  | .cons k t s n h kids r, B => by rw [Ins.app, tgt, tgt, tgt_app r B]; simp only [Bool.and_assoc]
theorem good_app {b i : Bool} {A B : Ins} (h : good b i A) (k : good b i B) : good b i (A.app B) := ⟨by rw [shal_app, h.1, k.1]; rfl, by rw [tgt_app, h.2, k.2]; rfl⟩
theorem good_nil (b i : Bool) : good b i .nil := ⟨rfl, rfl⟩
theorem good_txt {p : List UInt8} (hp : p ≠ []) (b i : Bool) : good b i (txt p) := by
  constructor
  · simp [txt, el, shal, okK, Ins.len, hp]
  · simp [txt, el, tgt, tgtK]
theorem good_br (b i : Bool) : good b i (el 6 [] .nil) := by
  constructor
  · simp [el, shal, okK, Ins.len]
  · simp [el, tgt, tgtK]
theorem good_bold {i : Bool} {L : Ins} (hl : L.len ≠ 0) (h : good true i L) : good false i (el 2 [] L) := by
  constructor
  · simp [el, shal, okK, hl, h.1]
  · simp [el, tgt, tgtK, h.2]
theorem good_italic {b : Bool} {L : Ins} (hl : L.len ≠ 0) (h : good b true L) : good b false (el 3 [] L) := by
  constructor
  · simp [el, shal, okK, hl, h.1]
  · simp [el, tgt, tgtK, h.2]
theorem good_note {nm : List UInt8} {L : Ins} (h : good false false L) (b i : Bool) : good b i (note nm L) := by
  constructor
  · simp [note, shal, okK, h.1]
  · simp [note, tgt, tgtK, h.2]
theorem good_link {s : Int} {n h : ByteArray} {L : Ins} (hv : tgtK 4 s n h = true) (hL : good false false L) (b i : Bool) : good b i (.cons 4 ⟨#[]⟩ s n h L .nil) := by
  constructor
  · simp [shal, okK, hL.1]
  · simp [tgt, hv, hL.2]
theorem parse_valid {s : List UInt8} (h : (parse s).2.2 = 0) : valid (parse s).1 (parse s).2.1 = true := by
  unfold parse at h ⊢
  split at h
  · simp at h
  · rename_i h1
    rw [if_neg h1]
    split at h
    · rename_i h2
      rw [if_pos h2]
      exact h2
    · simp at h
/-- a link is good -/
theorem linkC_good {P : List UInt8 → Ins} {c : List UInt8} {x : Ins} (hP : good false false (P (label c))) (h : linkC P c = some (some x)) (b i : Bool) : good b i x := by
  rcases linkC_form h with ⟨rfl, h0⟩ | ⟨rfl, h0⟩
  · refine good_link ?_ hP b i
    have := parse_valid h0
    simp [tgtK, this]
  · refine good_link ?_ hP b i
    simp [tgtK, h0]

/-! ### The open elements -/
def hasK (k : Int) (st : Stk) : Bool := st.any fun e => e.1 == k
def Inv : Stk → Prop
  | [] => True
  | (k, a) :: r => good (hasK 2 ((k, a) :: r)) (hasK 3 ((k, a) :: r)) a ∧ Inv r
theorem hasK_kind (k j : Int) (a b : Ins) (r : Stk) : hasK k ((j, a) :: r) = hasK k ((j, b) :: r) := rfl
theorem Inv.addTop {st : Stk} (h : Inv st) {x : Ins} (hx : ∀ b i, good b i x) : Inv (addTop x st) := by
  cases st with
  | nil => trivial
  | cons e r =>
    obtain ⟨k, a⟩ := e
    exact ⟨good_app h.1 (hx _ _), h.2⟩
theorem Inv.top {k : Int} {a x : Ins} {r : Stk} (h : Inv ((k, a) :: r)) (hx : good (hasK 2 ((k, a) :: r)) (hasK 3 ((k, a) :: r)) x) : Inv (Inl.addTop x ((k, a) :: r)) := ⟨good_app h.1 hx, h.2⟩
theorem Inv.flush {st : Stk} (h : Inv st) (p : List UInt8) : Inv (flush st p) := by
  unfold Inl.flush
  split
  · exact h
  · rename_i hp
    exact h.addTop fun b i => good_txt hp b i
/-- an open mark that is not within one of its own kind ends -/
theorem Inv.endT {k : Int} {a : Ins} {r : Stk} (h : Inv ((k, a) :: r)) (hk : (k = 2 ∨ k = 3) ∧ hasK k r = false) : Inv (endT ((k, a) :: r)) := by
  show Inv (if a.len = 0 then r else Inl.addTop (el k [] a) r)
  split
  · exact h.2
  · rename_i hl
    obtain ⟨hk, hn⟩ := hk
    cases r with
    | nil => trivial
    | cons e r =>
      obtain ⟨j, b⟩ := e
      refine h.2.top ?_
      have h1 := h.1
      rcases hk with rfl | rfl
      · rw [hn]
        have e2 : hasK 2 ((2, a) :: (j, b) :: r) = true := rfl
        have e3 : hasK 3 ((2, a) :: (j, b) :: r) = hasK 3 ((j, b) :: r) := rfl
        rw [e2, e3] at h1
        exact good_bold hl h1
      · rw [hn]
        have e2 : hasK 2 ((3, a) :: (j, b) :: r) = hasK 2 ((j, b) :: r) := rfl
        have e3 : hasK 3 ((3, a) :: (j, b) :: r) = true := rfl
        rw [e2, e3] at h1
        exact good_italic hl h1
theorem Inv.new {st : Stk} (h : Inv st) (k : Int) : Inv ((k, .nil) :: st) := ⟨good_nil _ _, h⟩
theorem Inv.toggle {st : Stk} (ho : Ok st) (h : Inv st) {k : Int} (hk : k = 2 ∨ k = 3) : Inv (toggle k st) := by
  have h0 : (0 : Int) ≠ k := by omega
  rcases ho with ⟨l, rfl⟩ | ⟨k1, a, l, hk1, rfl⟩ | ⟨k1, k2, a, b, l, hk1, rfl⟩
  · unfold Inl.toggle
    rw [later_ne h0]
    exact h.new k
  · unfold Inl.toggle
    by_cases e : k1 = k
    · subst e
      rw [later_eq]
      rw [if_neg (by simp)]
      simp only [List.length_nil, endN, reopen]
      exact h.endT ⟨hk1, by rcases hk1 with rfl | rfl <;> rfl⟩
    · rw [later_ne e, later_ne h0]
      rw [if_pos (by simp [later])]
      exact h.new k
  · have hkk : k1 = 2 ∨ k1 = 3 := by omega
    have hkk2 : k2 = 2 ∨ k2 = 3 := by omega
    have hx : hasK k1 [(k2, b), (0, l)] = false := by rcases hk1 with ⟨rfl, rfl⟩ | ⟨rfl, rfl⟩ <;> rfl
    have h1 := h.endT ⟨hkk, hx⟩
    unfold Inl.toggle
    by_cases e : k1 = k
    · subst e
      rw [later_eq]
      rw [if_neg (by simp)]
      simp only [List.length_nil, endN, reopen]
      exact h1
    · have e2 : k2 = k := by omega
      subst e2
      rw [later_ne e, later_eq]
      rw [if_neg (by simp)]
      simp only [List.length_cons, List.length_nil, endN, reopen]
      obtain ⟨b', hb⟩ := endT_two k1 a k2 b [(0, l)]
      rw [hb] at h1 ⊢
      exact (h1.endT ⟨hkk2, by rcases hkk2 with rfl | rfl <;> rfl⟩).new k1
theorem inv_app {P : List UInt8 → Ins} {c : UInt8} {r : List UInt8} {s : S} (hP : ∀ x : List UInt8, x.length < (c :: r).length → good false false (P x)) (ho : Ok s.stk) (h : Inv s.stk) : Inv ((ev P c r).app s).stk := by
  cases he : ev P c r with
  | letter x n => exact h
  | skip n => exact h
  | elem x n =>
    refine (h.flush _).addTop fun b i => ?_
    have hl := ev_len P c r
    rw [he] at hl
    rcases ev_form he with ⟨rfl, rfl⟩ | h1 | h1
    · exact good_br b i
    · obtain ⟨d, h2, h3, h4⟩ := link_form h1
      have h5 := label_le d
      exact linkC_good (hP _ (by omega)) h2 b i
    · obtain ⟨h2, h3⟩ := note_form h1
      rcases h3 with ⟨nm, rfl, _⟩ | ⟨nm, d, rfl, h4⟩
      · exact good_note (good_nil _ _) b i
      · exact good_note (hP _ (by omega)) b i
  | quotes n =>
    simp only [Ev.app, S.quotes]
    split
    · split
      · have h1 := Inv.toggle (ho.flush _) (h.flush (s.pend ++ List.replicate (n - left n) 39)) (k := 2) (.inl rfl)
        exact Inv.toggle (((ho.flush _).toggle (.inl rfl)).flush _) (h1.flush _) (.inr rfl)
      · exact Inv.toggle (ho.flush _) (h.flush _) (.inr rfl)
    · split
      · exact Inv.toggle (ho.flush _) (h.flush _) (.inl rfl)
      · exact h
theorem inv_run {P : List UInt8 → Ins} (L : Nat) (hP : ∀ x : List UInt8, x.length < L → good false false (P x)) : ∀ (f : Nat) (s : S) (l : List UInt8), l.length ≤ L → Ok s.stk → Inv s.stk → Inv (run P f s l).stk
  | 0, _, _, _, _, h => h
  | _ + 1, _, [], _, _, h => h
  | f + 1, s, c :: r, hl, ho, h => by
    rw [run]
    have h1 := ev_len P c r
    exact inv_run L hP f _ _ (by rw [List.length_drop]; omega) (ho.app _) (inv_app (fun x hx => hP x (by omega)) ho h)
theorem fin_good {s : S} (ho : Ok s.stk) (h : Inv s.stk) : good false false s.fin := by
  have ho := ho.flush s.pend
  have h := h.flush s.pend
  have hl : (flush s.stk s.pend).length = s.stk.length := by
    unfold flush
    split
    · rfl
    · cases s.stk with
      | nil => rfl
      | cons e r => rfl
  unfold S.fin
  rw [← hl]
  generalize flush s.stk s.pend = st at *
  rcases ho with ⟨l, rfl⟩ | ⟨k1, a, l, hk1, rfl⟩ | ⟨k1, k2, a, b, l, hk1, rfl⟩
  · exact h.1
  · have h1 := h.endT ⟨hk1, by rcases hk1 with rfl | rfl <;> rfl⟩
    obtain ⟨b', hb⟩ := endT_two k1 a 0 l []
    simp only [List.length_cons, List.length_nil, Nat.add_sub_cancel, endN]
    rw [hb] at h1 ⊢
    exact h1.1
  · have hkk : k1 = 2 ∨ k1 = 3 := by omega
    have hkk2 : k2 = 2 ∨ k2 = 3 := by omega
    have hx : hasK k1 [(k2, b), (0, l)] = false := by rcases hk1 with ⟨rfl, rfl⟩ | ⟨rfl, rfl⟩ <;> rfl
    have h1 := h.endT ⟨hkk, hx⟩
    obtain ⟨b', hb⟩ := endT_two k1 a k2 b [(0, l)]
    rw [hb] at h1
    have h2 := h1.endT ⟨hkk2, by rcases hkk2 with rfl | rfl <;> rfl⟩
    obtain ⟨l', hl⟩ := endT_two k2 b' 0 l []
    simp only [List.length_cons, List.length_nil, Nat.add_sub_cancel, endN]
    rw [hb]
    rw [hl] at h2 ⊢
    exact h2.1
theorem parseF_good : ∀ (d : Nat) (l : List UInt8), good false false (parseF d l)
  | 0, _ => good_nil _ _
  | d + 1, l => by
    rw [parseF]
    exact fin_good (Ok.run _ _ _ ok_start) (inv_run l.length (fun x _ => parseF_good d x) _ _ _ (Nat.le_refl _) ok_start ⟨good_nil _ _, trivial⟩)
theorem read_good (l : List UInt8) : good false false (read l) := parseF_good _ _
end Go.Proofs.YtegcacnmcdkfiaaGreatDoor.Inl
