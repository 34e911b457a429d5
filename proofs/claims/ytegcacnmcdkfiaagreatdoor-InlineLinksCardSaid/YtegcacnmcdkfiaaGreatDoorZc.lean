/-
  What written links read as. No conditions.
-/
import Derived.Test.YtegcacnmcdkfiaaGreatDoorXa

namespace Go.Proofs.YtegcacnmcdkfiaaGreatDoor.Inl
open Go.RowKit Doc Tit
set_option linter.unusedVariables false

def prefL : List (List UInt8) := [[], [84, 97, 108, 107, 58], [85, 115, 101, 114, 58], [84, 101, 109, 112, 108, 97, 116, 101, 58], [67, 97, 116, 101, 103, 111, 114, 121, 58], [80, 114, 111, 106, 101, 99, 116, 58]]
def nameL : List (List UInt8) := [[65], [66], [65, 47, 66], [67], [84], [85, 47, 120], [65, 47, 66, 47, 99], [76, 111, 110, 103, 32, 110, 97, 109, 101], [49], [88]]
/-- an anchor as it is written, and what is read -/
def ancL : List (List UInt8 × List UInt8) := [([], []), ([35, 120], [120]), ([35, 32, 97, 32, 98, 32], [97, 32, 98])]
def plB (c : UInt8) : Bool := !(c == 91) && !(c == 60) && !(c == 38) && !(c == 39)
theorem plB_pl {c : UInt8} (h : plB c = true) : pl c := by
  simp [plB] at h
  obtain ⟨⟨⟨h1, h2⟩, h3⟩, h4⟩ := h
  exact ⟨h1, h2, h3, h4⟩
def okL (s : Nat) (t : List UInt8) (n : List UInt8) (a an : List UInt8) : Bool :=
  (lname (58 :: (t ++ n ++ a))).any (fun x => !(bl3 x)) && (parse (lname (58 :: (t ++ n ++ a))) == (s, n, 0)) && (((lname (58 :: (t ++ n ++ a))).dropWhile bl3).head? == some 58) &&
  (lanchor (58 :: (t ++ n ++ a)) == an) && (58 :: (t ++ n ++ a)).all (fun c => !(c == 124) && !(c == 93) && !(c == 91) && !(c == 10)) && (t ++ n ++ a).all plB && decide ((t ++ n ++ a).length ≤ 100) && !(t ++ n ++ a).isEmpty
def allL : Bool := (List.range 6).all fun s => nameL.all fun n => ancL.all fun a => match prefL[s]? with
  | some t => okL s t n a.1 a.2
  | none => false
set_option maxRecDepth 100000 in
theorem allL_ok : allL = true := by kernel_rfl
theorem okL_of {s : Nat} {t n a an : List UInt8} (hs : s < 6) (ht : prefL[s]? = some t) (hn : n ∈ nameL) (ha : (a, an) ∈ ancL) : okL s t n a an = true := by
  have h1 := List.all_eq_true.1 allL_ok s (List.mem_range.2 hs)
  have h2 := List.all_eq_true.1 h1 n hn
  have h3 := List.all_eq_true.1 h2 (a, an) ha
  rw [ht] at h3
  exact h3
/-- what these checks say -/
structure LinkT (s : Nat) (n an x : List UInt8) : Prop where
  any : (lname (58 :: x)).any (fun x => !(bl3 x)) = true
  parse : parse (lname (58 :: x)) = (s, n, 0)
  colon : ((lname (58 :: x)).dropWhile bl3).head? = some 58
  anchor : lanchor (58 :: x) = an
  no : ∀ c ∈ (58 :: x : List UInt8), c ≠ 124 ∧ c ≠ 93 ∧ c ≠ 91 ∧ c ≠ 10
  pl : ∀ c ∈ x, pl c
  len : x.length ≤ 100
  ne : x ≠ []
theorem linkT_of {s : Nat} {t n a an : List UInt8} (hs : s < 6) (ht : prefL[s]? = some t) (hn : n ∈ nameL) (ha : (a, an) ∈ ancL) : LinkT s n an (t ++ n ++ a) := by
  have h := okL_of hs ht hn ha
  unfold okL at h
  simp only [Bool.and_eq_true] at h
  obtain ⟨⟨⟨⟨⟨⟨⟨h1, h2⟩, h3⟩, h4⟩, h5⟩, h6⟩, h7⟩, h8⟩ := h
  refine ⟨h1, eq_of_beq h2, eq_of_beq h3, eq_of_beq h4, fun c hc => ?_, fun c hc => plB_pl (List.all_eq_true.1 h6 c hc), of_decide_eq_true h7, fun e => by rw [e] at h8; cases h8⟩
  have := List.all_eq_true.1 h5 c hc
  simp at this
  obtain ⟨⟨⟨a1, a2⟩, a3⟩, a4⟩ := this
  exact ⟨a1, a2, a3, a4⟩
theorem bef_self {c : UInt8} : ∀ {l : List UInt8}, (∀ x ∈ l, x ≠ c) → ∀ r, bef c (l ++ c :: r) = l
  | [], _, r => by simp [bef]
  | a :: l, h, r => by
    have h1 : a ≠ c := h a List.mem_cons_self
    have ih := bef_self (l := l) (fun x hx => h x (List.mem_cons_of_mem _ hx)) r
    unfold bef at ih ⊢
    rw [List.cons_append, List.takeWhile_cons_of_pos (by simpa using h1), ih]
theorem bef_none {c : UInt8} : ∀ {l : List UInt8}, (∀ x ∈ l, x ≠ c) → bef c l = l
  | [], _ => rfl
  | a :: l, h => by
    have h1 : a ≠ c := h a List.mem_cons_self
    have ih := bef_none (l := l) (fun x hx => h x (List.mem_cons_of_mem _ hx))
    unfold bef at ih ⊢
    rw [List.takeWhile_cons_of_pos (by simpa using h1), ih]
theorem index_byte2 : ∀ (s t : List UInt8), (∀ c ∈ s, c ≠ 93) → Lib.index (s ++ 93 :: 93 :: t) [93, 93] = s.length
  | [], t, _ => by simp [index_cons, Lib.hasPrefix]
  | c :: s, t, h => by
    have h1 : c ≠ 93 := h c List.mem_cons_self
    have ih := index_byte2 s t fun x hx => h x (List.mem_cons_of_mem _ hx)
    rw [List.cons_append, index_cons, hp_other h1, ih]
    rw [if_neg (by decide), if_neg (by simp)]
    simp
theorem index_no {a : UInt8} {p : List UInt8} : ∀ {s : List UInt8}, (∀ c ∈ s, c ≠ a) → Lib.index s (a :: p) = -1
  | [], _ => rfl
  | c :: s, h => by
    have h1 : c ≠ a := h c List.mem_cons_self
    have ih := index_no (p := p) (s := s) fun x hx => h x (List.mem_cons_of_mem _ hx)
    rw [index_cons, hp_other h1, ih]
    rfl
/-- "[[" content "]]" -/
theorem read_link {c : List UInt8} {x : Ins} (h93 : ∀ a ∈ c, a ≠ 93) (h91 : ∀ a ∈ c, a ≠ 91) (h10 : ∀ a ∈ c, a ≠ 10) (h : linkC read c = some (some x)) : read ([91, 91] ++ c ++ [93, 93]) = x := by
  have e : [91, 91] ++ c ++ [93, 93] = 91 :: (91 :: (c ++ [93, 93])) := by simp
  rw [e]
  apply read_elem
  have hl : linkE read (91 :: 91 :: (c ++ [93, 93])) = some (some x, c.length + 4) := by
    unfold linkE
    rw [if_pos (by simp [Lib.hasPrefix])]
    have hi : Lib.index ((91 :: 91 :: (c ++ [93, 93])).drop 2) [93, 93] = c.length := index_byte2 c [] h93
    have ht : (List.drop 2 (91 :: 91 :: (c ++ [93, 93]))).take ((c.length : Int)).toNat = c := by simp
    rw [hi, if_neg (by simp)]
    simp only [ht]
    rw [if_neg (by
      rintro (h1 | h1)
      · exact h1 (index_no h91)
      · exact h10 10 h1 rfl), h]
    rfl
  unfold ev
  rw [if_pos rfl, hl]
  simp [ofLink]
def lk (s : Nat) (n an : List UInt8) (L : Ins) : Ins := .cons 4 ⟨#[]⟩ (s : Int) ⟨n.toArray⟩ ⟨an.toArray⟩ L .nil
theorem linkC_of {s : Nat} {n an x c : List UInt8} (h : LinkT s n an x) (hb : bef 124 c = 58 :: x) : linkC read c = some (some (lk s n an (read (label c)))) := by
  have e1 : lname c = lname (58 :: x) := by unfold lname; rw [hb, bef_none fun y hy => (h.no y hy).1]
  have e2 : lanchor c = lanchor (58 :: x) := by unfold lanchor; rw [hb, bef_none fun y hy => (h.no y hy).1]
  unfold linkC
  rw [e1, e2, h.any, Bool.true_or, if_pos rfl, h.parse, if_neg (by simp), if_neg (by rw [h.colon]; simp), h.anchor]
  rfl
/-- with a label -/
theorem read_labelled {s : Nat} {n an x l : List UInt8} (h : LinkT s n an x) (hl : ∀ c ∈ l, c ≠ 93 ∧ c ≠ 91 ∧ c ≠ 10) : read ([91, 91] ++ (58 :: x ++ 124 :: l) ++ [93, 93]) = lk s n an (read l) := by
  have hm : ∀ a ∈ 58 :: x ++ 124 :: l, a ≠ 93 ∧ a ≠ 91 ∧ a ≠ 10 := by
    intro a ha
    rcases List.mem_append.1 ha with ha | ha
    · exact ⟨(h.no a ha).2.1, (h.no a ha).2.2.1, (h.no a ha).2.2.2⟩
    · rcases List.mem_cons.1 ha with rfl | ha
      · decide
      · exact hl a ha
  have hb : bef 124 (58 :: x ++ 124 :: l) = 58 :: x := bef_self (fun y hy => (h.no y hy).1) l
  have hlab : label (58 :: x ++ 124 :: l) = l := by
    unfold label has aftr
    rw [hb, if_pos (by simp)]
    simp
  have := linkC_of h hb
  rw [hlab] at this
  exact read_link (fun a ha => (hm a ha).1) (fun a ha => (hm a ha).2.1) (fun a ha => (hm a ha).2.2) this
/-- without one -/
theorem read_bare {s : Nat} {n an x : List UInt8} (h : LinkT s n an x) : read ([91, 91] ++ (58 :: x) ++ [93, 93]) = lk s n an (txt x) := by
  have hb : bef 124 (58 :: x) = 58 :: x := bef_none fun y hy => (h.no y hy).1
  have hlab : label (58 :: x) = x := by
    unfold label has
    rw [hb, if_neg (by simp), if_pos (by rfl)]
    rfl
  have h1 := linkC_of h hb
  rw [hlab, read_pl h.pl, if_neg h.ne] at h1
  exact read_link (fun a ha => (h.no a ha).2.1) (fun a ha => (h.no a ha).2.2.1) (fun a ha => (h.no a ha).2.2.2) h1
end Go.Proofs.YtegcacnmcdkfiaaGreatDoor.Inl
