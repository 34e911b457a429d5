/-
  The shape of the blocks that texts read as. No conditions.
  Blocks of texts put together: an empty line parts them; lines put together again. No conditions.
  The reference's division of a text into lines; walked. Conditions: those typed in each theorem.
  Lines that begin with a blank: they are one block of code. No conditions.
-/
import Derived.Test.YthieinfonomeeaaGreatDoorAba

namespace Go.Proofs.YthieinfonomeeaaGreatDoor
open Go.RowKit Doc Tit Inl Blk
set_option linter.unusedVariables false

def wantK (a : Int) : Int := if a = 3 then 4 else if a = 4 then 3 else if a = 7 then 8 else if a = 8 then 9 else 0
def kindsAre (x : Int) : Bls → Prop
  | .nil => True
  | .cons a _ _ _ _ r => a = x ∧ kindsAre x r
/-- what the law asks of a block apart from its Kids -/
def headOk (a l : Int) (t : ByteArray) (n m : Nat) : Prop :=
  (a = 3 ∧ 0 < m ∧ n = 0 ∧ 0 ≤ l ∧ l ≤ 1) ∨ (a = 8 ∧ 0 < m ∧ n = 0) ∨ (a = 1 ∧ 1 ≤ l ∧ l ≤ 6) ∨ (a = 6 ∧ n = 0) ∨ ((a = 2 ∨ a = 4 ∨ a = 5 ∨ a = 7 ∨ a = 9) ∧ t = ⟨#[]⟩)
def shapeB : Bls → Prop
  | .nil => True
  | .cons a l t i k r => headOk a l t i.len k.len ∧ kindsAre (wantK a) k ∧ shapeB k ∧ shapeB r
/-- no list in a list stands alone -/
def topB : Bls → Prop
  | .nil => True
  | .cons a _ _ _ _ r => (a ≠ 4 ∧ a ≠ 8 ∧ a ≠ 9) ∧ topB r
theorem kindsAre_app {x : Int} : ∀ {a b : Bls}, kindsAre x a → kindsAre x b → kindsAre x (a.app b)
  | .nil, b, _, h => h
  | .cons _ _ _ _ _ r, b, h, k => ⟨h.1, kindsAre_app h.2 k⟩
theorem shapeB_app : ∀ {a b : Bls}, shapeB a → shapeB b → shapeB (a.app b)
  | .nil, b, _, h => h
  | .cons _ _ _ _ _ r, b, h, k => ⟨h.1, h.2.1, h.2.2.1, shapeB_app h.2.2.2 k⟩
theorem topB_app : ∀ {a b : Bls}, topB a → topB b → topB (a.app b)
  | .nil, b, _, h => h
  | .cons _ _ _ _ _ r, b, h, k => ⟨h.1, topB_app h.2 k⟩
theorem topB_of {x : Int} (hx : x ≠ 4 ∧ x ≠ 8 ∧ x ≠ 9) : ∀ {a : Bls}, kindsAre x a → topB a
  | .nil, _ => trivial
  | .cons _ _ _ _ _ r, h => ⟨by rw [h.1]; exact hx, topB_of hx h.2⟩
theorem sum_pos_nil {d : Nat} {l : List It} (hd : Deep d l) (h : sumD d l = 0) : l = [] := by
  cases l with
  | nil => rfl
  | cons x r => have := sumD_pos hd; omega
theorem IT_pos {d : Nat} {x : It} {r : List It} (hd : Deep d (x :: r)) : 0 < (IT d (x :: r)).len := by
  by_cases hx : x.pre.length = d + 1
  · rw [IT_head hd hx, Bls.len_app]; show 0 < 0 + 1 + _; omega
  · rw [IT_deep hd hx, Bls.len_app]; show 0 < 0 + 1 + _; omega
theorem lists_shape : ∀ N : Nat, (∀ (d : Nat) (l : List It), 2 * sumD d l ≤ N → Deep d l → kindsAre 3 (LI d l) ∧ shapeB (LI d l)) ∧ (∀ (d : Nat) (l : List It), 2 * sumD d l ≤ N + 1 → Deep d l → kindsAre 4 (IT d l) ∧ shapeB (IT d l)) := by
  intro N
  induction N with
  | zero =>
    refine ⟨fun d l h hd => ?_, fun d l h hd => ?_⟩
    · rw [sum_pos_nil hd (by omega), LI_nil]; exact ⟨trivial, trivial⟩
    · rw [sum_pos_nil hd (by omega), IT_nil]; exact ⟨trivial, trivial⟩
  | succ N ih =>
    obtain ⟨ih1, ih2⟩ := ih
    refine ⟨fun d l h hd => ?_, fun d l h hd => ?_⟩
    · cases l with
      | nil => rw [LI_nil]; exact ⟨trivial, trivial⟩
      | cons x r =>
        rw [LI_cons hd]
        generalize hn : Blk.runN d x.pre[d]? r = n
        have hs := sumD_split d (n + 1) (x :: r)
        have ht : 1 ≤ sumD d ((x :: r).take (n + 1)) := by rw [List.take_succ_cons, sumD_cons]; have := hd x List.mem_cons_self; omega
        have h1 := ih2 d ((x :: r).take (n + 1)) (by omega) (hd.take _)
        have h2 := ih1 d ((x :: r).drop (n + 1)) (by omega) (hd.drop _)
        have h3 : 0 < (IT d ((x :: r).take (n + 1))).len := by
          have hdt := hd.take (n + 1)
          rw [List.take_succ_cons] at hdt ⊢
          exact IT_pos hdt
        refine ⟨kindsAre_app ⟨rfl, trivial⟩ h2.1, shapeB_app ⟨.inl ⟨rfl, h3, rfl, by split <;> omega, by split <;> omega⟩, h1.1, h1.2, trivial⟩ h2.2⟩
    · cases l with
      | nil => rw [IT_nil]; exact ⟨trivial, trivial⟩
      | cons x r =>
        by_cases hx : x.pre.length = d + 1
        · rw [IT_head hd hx]
          have h4 : Deep (d + 1) (r.take (deepN d r)) := deep_take r
          generalize hn : deepN d r = n at *
          have hs := sumD_split d n r
          have hsc := sumD_cons d x r
          have h3 := sumD_succ d (r.take n) (hd.tail.take n)
          have h1 := ih1 (d + 1) (r.take n) (by omega) h4
          have h2 := ih2 d (r.drop n) (by omega) (hd.tail.drop n)
          exact ⟨kindsAre_app ⟨rfl, trivial⟩ h2.1, shapeB_app ⟨.inr (.inr (.inr (.inr ⟨.inr (.inl rfl), rfl⟩))), h1.1, h1.2, trivial⟩ h2.2⟩
        · rw [IT_deep hd hx]
          have hx2 : d + 1 < x.pre.length := by have := hd x List.mem_cons_self; omega
          have hnp := deepN_pos (r := r) hx2
          have h4 : Deep (d + 1) ((x :: r).take (deepN d (x :: r))) := deep_take _
          generalize hn : deepN d (x :: r) = n at *
          have hs := sumD_split d n (x :: r)
          have h3 := sumD_succ d ((x :: r).take n) (hd.take n)
          have hl : 1 ≤ ((x :: r).take n).length := by rw [hnp]; simp
          have h1 := ih1 (d + 1) ((x :: r).take n) (by omega) h4
          have h2 := ih2 d ((x :: r).drop n) (by omega) (hd.drop n)
          exact ⟨kindsAre_app ⟨rfl, trivial⟩ h2.1, shapeB_app ⟨.inr (.inr (.inr (.inr ⟨.inr (.inl rfl), rfl⟩))), h1.1, h1.2, trivial⟩ h2.2⟩
theorem cells_shape : ∀ c : List Cell, kindsAre 9 (cellsB c) ∧ shapeB (cellsB c)
  | [] => ⟨trivial, trivial⟩
  | (k, t) :: r => by
    have ih := cells_shape r
    exact ⟨⟨rfl, ih.1⟩, .inr (.inr (.inr (.inr ⟨.inr (.inr (.inr (.inr rfl))), rfl⟩))), trivial, trivial, ih.2⟩
theorem rows_shape : ∀ a : List (List Cell), kindsAre 8 (rowsB a) ∧ shapeB (rowsB a)
  | [] => ⟨trivial, trivial⟩
  | c :: r => by
    have ih := rows_shape r
    have h := cells_shape c
    rw [rowsB]
    split
    · exact ih
    · rename_i hc
      refine ⟨⟨rfl, ih.1⟩, .inr (.inl ⟨rfl, ?_, rfl⟩), h.1, h.2, ih.2⟩
      rw [cellsB_len]
      exact List.length_pos_iff.2 hc
theorem eqs_min {x : Line} {n : Nat} {T : Line} (h : hd x = some (n, T)) : 1 ≤ n ∧ n ≤ 6 := by
  unfold hd hdT at h
  split at h
  · cases h
  · split at h
    · cases h
    · injection h with h
      injection h with h1 h2
      subst h1
      omega
theorem first_shape (x : Line) (r : List Line) : topB (firstB (x :: r)).1 ∧ shapeB (firstB (x :: r)).1 := by
  have h6 := kindL_le x
  obtain ⟨k, hk⟩ : ∃ k, kindL x = k := ⟨_, rfl⟩
  rw [hk] at h6
  match k, h6, hk with
  | 0, _, hk => rw [first0 _ hk]; exact ⟨trivial, trivial⟩
  | 1, _, hk =>
    rw [first1 _ hk]
    have h := rows_shape (tabOf (r.takeWhile fun l => !(Lib.hasPrefix l [124, 125])))
    exact ⟨⟨⟨by decide, by decide, by decide⟩, trivial⟩, .inr (.inr (.inr (.inr ⟨.inr (.inr (.inr (.inl rfl))), rfl⟩))), h.1, h.2, trivial⟩
  | 2, _, hk =>
    rw [first2 _ hk]
    have h1 := kind2_some hk
    cases h2 : hd x with
    | none => rw [h2] at h1; cases h1
    | some y =>
      obtain ⟨n, T⟩ := y
      have h3 := eqs_min h2
      refine ⟨⟨⟨by decide, by decide, by decide⟩, trivial⟩, .inr (.inr (.inl ⟨rfl, ?_, ?_⟩)), trivial, trivial, trivial⟩
      · show (1 : Int) ≤ (n : Int); omega
      · show (n : Int) ≤ 6; omega
  | 3, _, hk => rw [first3 _ hk]; exact ⟨⟨⟨by decide, by decide, by decide⟩, trivial⟩, .inr (.inr (.inr (.inr ⟨.inr (.inr (.inl rfl)), rfl⟩))), trivial, trivial, trivial⟩
  | 4, _, hk =>
    rw [first4 _ hk]
    have hd : Deep 0 ((x :: r.takeWhile listL).map item) := by
      intro y hy
      obtain ⟨s, hs, rfl⟩ := List.mem_map.1 hy
      have h1 : listL s = true := by
        rcases List.mem_cons.1 hs with rfl | hs
        · exact kind4_list hk
        · exact List.all_eq_true.1 (List.all_takeWhile (p := listL) (l := r)) _ hs
      show 0 < (s.takeWhile star).length
      cases s with
      | nil => cases h1
      | cons a q =>
        have h2 : star a = true := h1
        rw [List.takeWhile_cons, if_pos h2]
        simp
    show topB (lists 0 _) ∧ shapeB (lists 0 _)
    rw [lists_eq hd]
    have h := (lists_shape _).1 0 _ (Nat.le_refl _) hd
    exact ⟨topB_of ⟨by decide, by decide, by decide⟩ h.1, h.2⟩
  | 5, _, hk => rw [first5 _ hk]; exact ⟨⟨⟨by decide, by decide, by decide⟩, trivial⟩, .inr (.inr (.inr (.inl ⟨rfl, rfl⟩))), trivial, trivial, trivial⟩
  | 6, _, hk => rw [first6 _ hk]; exact ⟨⟨⟨by decide, by decide, by decide⟩, trivial⟩, .inr (.inr (.inr (.inr ⟨.inl rfl, rfl⟩))), trivial, trivial, trivial⟩
theorem blocks_shape : ∀ (N : Nat) (l : List Line), l.length ≤ N → topB (BL l) ∧ shapeB (BL l)
  | _, [], _ => ⟨trivial, trivial⟩
  | N + 1, x :: r, h => by
    rw [BL_cons]
    have hp := (firstB_pos x r).1
    have h1 := first_shape x r
    have h2 := blocks_shape N ((x :: r).drop (firstB (x :: r)).2) (by rw [List.length_drop]; rw [List.length_cons] at *; omega)
    exact ⟨topB_app h1.1 h2.1, shapeB_app h1.2 h2.2⟩
end Go.Proofs.YthieinfonomeeaaGreatDoor

namespace Go.Proofs.YthieinfonomeeaaGreatDoor
open Go.RowKit Doc Tit Inl Blk
set_option linter.unusedVariables false

theorem onto_app (c : UInt8) : ∀ (a b : List Line), a ≠ [] → onto c (a ++ b) = onto c a ++ b
  | [], b, h => absurd rfl h
  | x :: r, b, _ => rfl
theorem spl_app (c : UInt8) : ∀ (a b : Line), spl c (a ++ c :: b) = spl c a ++ spl c b
  | [], b => by
    show spl c (c :: b) = [[]] ++ spl c b
    conv => lhs; rw [spl]
    rw [if_pos rfl]; rfl
  | x :: a, b => by
    rw [List.cons_append, spl, spl, spl_app c a b]
    split
    · rfl
    · rw [onto_app _ _ _ (spl_ne c a)]
/-- a text with no such byte is one part -/
theorem spl_none (c : UInt8) : ∀ a : Line, (∀ x ∈ a, x ≠ c) → spl c a = [a]
  | [], _ => rfl
  | x :: a, h => by
    rw [spl, if_neg (h x List.mem_cons_self), spl_none c a fun y hy => h y (List.mem_cons_of_mem _ hy)]
    rfl
theorem spl_part (c : UInt8) : ∀ (a y : Line), y ∈ spl c a → ∀ x ∈ y, x ≠ c
  | [], y, hy, x, hx => by
    have : y = [] := by simpa [spl] using hy
    subst this; cases hx
  | b :: a, y, hy, x, hx => by
    have ih := spl_part c a
    rw [spl] at hy
    split at hy
    · rcases List.mem_cons.1 hy with rfl | hy
      · cases hx
      · exact ih y hy x hx
    · rename_i hb
      cases hs : spl c a with
      | nil => exact absurd hs (spl_ne c a)
      | cons p r =>
        rw [hs] at hy ih
        rcases List.mem_cons.1 hy with rfl | hy
        · rcases List.mem_cons.1 hx with rfl | hx
          · exact hb
          · exact ih p List.mem_cons_self x hx
        · exact ih y (List.mem_cons_of_mem _ hy) x hx
/-- the parts put together again -/
theorem join_onto (x : UInt8) : ∀ L : List Line, L ≠ [] → joinL (onto x L) = x :: joinL L
  | [], h => absurd rfl h
  | [a], _ => rfl
  | a :: b :: r, _ => rfl
theorem join_cons (a : Line) : ∀ L : List Line, L ≠ [] → joinL (a :: L) = a ++ 10 :: joinL L
  | [], h => absurd rfl h
  | b :: r, _ => by rw [joinL]; simp
theorem join_spl : ∀ a : Line, joinL (spl 10 a) = a
  | [] => rfl
  | x :: a => by
    rw [spl]
    split
    · rename_i h
      rw [join_cons _ _ (spl_ne 10 a), join_spl a, h]; rfl
    · rw [join_onto _ _ (spl_ne 10 a), join_spl a]
theorem spl_join : ∀ L : List Line, L ≠ [] → (∀ y ∈ L, ∀ x ∈ y, x ≠ 10) → spl 10 (joinL L) = L
  | [], h, _ => absurd rfl h
  | [a], _, h => spl_none 10 a (h a List.mem_cons_self)
  | a :: b :: r, _, h => by
    rw [join_cons a _ (by simp), spl_app, spl_none 10 a (h a List.mem_cons_self), spl_join (b :: r) (by simp) fun y hy => h y (List.mem_cons_of_mem _ hy)]
    rfl
theorem join_snoc (x : Line) : ∀ L : List Line, joinL (L ++ [x]) = if L = [] then x else joinL L ++ 10 :: x
  | [] => rfl
  | [a] => by rw [List.singleton_append, joinL, if_neg (by simp)]; simp [joinL]
  | a :: b :: r => by
    have ih := join_snoc x (b :: r)
    rw [if_neg (by simp)] at ih ⊢
    rw [List.cons_append, join_cons a _ (by simp), ih, join_cons a _ (by simp)]
    simp
/-- the first part is the text's beginning -/
theorem spl_head (c : UInt8) (a : Line) : ∃ p L t, spl c a = p :: L ∧ a = p ++ t := by
  induction a with
  | nil => exact ⟨[], [], [], rfl, rfl⟩
  | cons x a ih =>
    obtain ⟨p, L, t, h1, h2⟩ := ih
    by_cases h : x = c
    · exact ⟨[], spl c a, x :: a, by rw [spl, if_pos h], rfl⟩
    · exact ⟨x :: p, L, t, by rw [spl, if_neg h, h1]; rfl, by rw [h2]; rfl⟩
theorem no_table : ∀ a : Line, Lib.index a [123, 124] = -1 → ∀ y ∈ spl 10 a, Lib.hasPrefix y [123, 124] = false
  | [], _, y, hy => by
    have : y = [] := by simpa [spl] using hy
    subst this; rfl
  | x :: a, h, y, hy => by
    rw [index_cons] at h
    by_cases hp : Lib.hasPrefix (x :: a) [123, 124] = true
    · rw [if_pos hp] at h; omega
    rw [if_neg hp] at h
    have ha : Lib.index a [123, 124] = -1 := by
      by_cases hs : Lib.index a [123, 124] = -1
      · exact hs
      · rw [if_neg (by simpa using hs)] at h
        have := Lib.index_ge a [123, 124]
        omega
    have ih := no_table a ha
    rw [spl] at hy
    split at hy
    · rcases List.mem_cons.1 hy with rfl | hy
      · rfl
      · exact ih y hy
    · obtain ⟨p, L, t, h1, h2⟩ := spl_head 10 a
      rw [h1] at hy ih
      rcases List.mem_cons.1 hy with rfl | hy
      · cases hq : Lib.hasPrefix (x :: p) [123, 124] with
        | false => rfl
        | true =>
          have := prefix_append [123, 124] (x :: p) t hq
          rw [List.cons_append, ← h2] at this
          exact absurd this hp
      · exact ih y (List.mem_cons_of_mem _ hy)
theorem tw_halt {α : Type} (p : α → Bool) (y : α) (hy : p y = false) (b : List α) : ∀ a : List α, (a ++ y :: b).takeWhile p = a.takeWhile p
  | [] => by simp [hy]
  | x :: a => by
    rw [List.cons_append, List.takeWhile_cons, List.takeWhile_cons, tw_halt p y hy b a]
theorem kind1_pre {x : Line} (h : kindL x = 1) : Lib.hasPrefix x [123, 124] = true := by
  unfold kindL at h
  repeat' split at h
  all_goals first | assumption | (exfalso; omega)
theorem kind_nil : kindL [] = 0 := rfl
theorem first_stop {x : Line} (hx : Lib.hasPrefix x [123, 124] = false) (r b : List Line) : firstB (x :: (r ++ [] :: b)) = firstB (x :: r) := by
  have h6 := kindL_le x
  obtain ⟨k, hk⟩ : ∃ k, kindL x = k := ⟨_, rfl⟩
  rw [hk] at h6
  match k, h6, hk with
  | 0, _, hk => rw [first0 _ hk, first0 _ hk]
  | 1, _, hk => rw [kind1_pre hk] at hx; cases hx
  | 2, _, hk => rw [first2 _ hk, first2 _ hk]
  | 3, _, hk => rw [first3 _ hk, first3 _ hk]
  | 4, _, hk => rw [first4 _ hk, first4 _ hk, tw_halt listL [] rfl]
  | 5, _, hk => rw [first5 _ hk, first5 _ hk, tw_halt (fun l => !(emptyL l) && codeL l) [] rfl]
  | 6, _, hk => rw [first6 _ hk, first6 _ hk, tw_halt (fun l => decide (kindL l = 6)) [] rfl]
theorem BL_sep : ∀ (N : Nat) (a b : List Line), a.length ≤ N → (∀ y ∈ a, Lib.hasPrefix y [123, 124] = false) → BL (a ++ [] :: b) = (BL a).app (BL b)
  | _, [], b, _, _ => by
    rw [List.nil_append, BL_cons, first0 _ kind_nil]; rfl
  | N + 1, x :: r, b, h, hn => by
    rw [List.cons_append, BL_cons, BL_cons x r, first_stop (hn x List.mem_cons_self)]
    obtain ⟨h1, h2⟩ := firstB_pos x r
    generalize (firstB (x :: r)).2 = n at h1 h2
    rw [← List.cons_append, List.drop_append_of_le_length h2]
    rw [BL_sep N ((x :: r).drop n) b (by rw [List.length_drop]; rw [List.length_cons] at *; omega) fun y hy => hn y (List.mem_of_mem_drop hy), Bls.app_assoc]
/-- two texts with an empty line between them -/
theorem blocks_sep (a b : Line) (h : Lib.index a [123, 124] = -1) : blocks (a ++ 10 :: 10 :: b) = (blocks a).app (blocks b) := by
  rw [blocks_BL, blocks_BL, blocks_BL]
  show BL (spl 10 _) = (BL (spl 10 _)).app (BL (spl 10 _))
  rw [spl_app]
  have e : spl 10 (10 :: b) = [] :: spl 10 b := by rw [spl, if_pos rfl]
  rw [e]
  exact BL_sep _ _ _ (Nat.le_refl _) (no_table a h)
end Go.Proofs.YthieinfonomeeaaGreatDoor

namespace Go.Proofs.YthieinfonomeeaaGreatDoor
open Go.RowKit Doc Tit Inl Blk
set_option linter.unusedVariables false
attribute [local go_sem ↓] Go.wp_at_zero Go.wp_at_succ

/-- bytes ahead of the first part -/
def ahead (x : Line) : List Line → List Line
  | [] => [x]
  | y :: r => (x ++ y) :: r
theorem ahead_nil {L : List Line} (h : L ≠ []) : ahead [] L = L := by
  cases L with
  | nil => exact absurd rfl h
  | cons y r => rfl
theorem ahead_onto (x : Line) (b : UInt8) {L : List Line} (h : L ≠ []) : ahead x (onto b L) = ahead (x ++ [b]) L := by
  cases L with
  | nil => exact absurd rfl h
  | cons y r => simp [ahead, onto]
theorem ahead_sep (c : UInt8) (x s : Line) : ahead x (spl c (c :: s)) = x :: spl c s := by rw [spl, if_pos rfl]; simp [ahead]
theorem ahead_byte {b c : UInt8} (h : b ≠ c) (x s : Line) : ahead x (spl c (b :: s)) = ahead (x ++ [b]) (spl c s) := by rw [spl, if_neg h, ahead_onto _ _ (spl_ne c s)]
theorem own_none (q : Nat → Prop) (w : World) : txS.own 9 q w.heap.size (w.alloc (.cells #[] 9)) (.slice (some ⟨w.heap.size, 0, none⟩) 0 0) [] :=
  ⟨[], ⟨rfl, .inr ⟨w.heap.size, 0, #[], rfl, Nat.le_refl _, Known.made w _ _, Nat.le_refl _, Nat.zero_le _, rfl, rfl⟩⟩, rfl⟩
theorem bl_app (a b : List ByteArray) : bl (a ++ b) = bl a ++ bl b := by simp [bl]
theorem ext_data (s : ByteArray) (i j : Nat) : (s.extract i j).data.toList = (s.data.toList.take j).drop i := by
  rw [ByteArray.data_extract, Array.toList_extract]
  rw [List.drop_take]

set_option maxRecDepth 10000 in
set_option maxHeartbeats 2000000 in
theorem lines12_any (s : ByteArray) (w : World) (hs : s.size ≤ 100000000) : Calls Tryz.prog 29 #[.string s] w fun e w' => ∃ (l : List ByteArray) (b c : Nat), e = .returned (.slice (some ⟨b, 0, none⟩) l.length c) ∧
    bl l = lines s.data.toList ∧ SL w' (some ⟨b, 0, none⟩) c l ∧ w.heap.size ≤ b ∧ b < w'.heap.size ∧ Below w.heap.size w w' := by
  have hz : s.data.toList.length = s.size := by simp
  have hdb := drop_byte s
  have hxd := ext_data s
  have hO0 := own_none (fun _ => False) w
  obtain ⟨l, hl⟩ : ∃ l, l = s.data.toList := ⟨_, rfl⟩
  rw [← hl] at hdb hz hxd ⊢
  have HDB := Lib.hid hdb
  have HXD := Lib.hid hxd
  have HO0 := Lib.hid hO0
  have HL := Lib.hid hl
  have HZ := Lib.hid hz
  have hb0 := below_new0 w (.cells #[] 9)
  clear hdb hxd hO0 hl hz
  go_enter Tryz.func29, Tryz.ntmps29
  go_wp2_with fail
  go_loopg [3, 4, 5] (s.size + 1) (fun g s3 s4 s5 wr => ∃ (i f : Nat) (P : List ByteArray), f ≤ i ∧ i ≤ s.size ∧ s.size < i + g ∧ s4 = .int .i64 f ∧ s5 = .int .i64 i ∧ P.length ≤ i ∧ txS.own 9 (fun _ => False) w.heap.size wr s3 P ∧ lines l = bl P ++ ahead ((l.take i).drop f) (spl 10 (l.drop i)) ∧ Below w.heap.size w wr)
  case atStart => exact ⟨0, 0, [], by omega, by omega, by omega, rfl, rfl, Nat.le_refl _, HO0.out, by rw [List.take_zero, List.drop_nil, List.drop_zero, ahead_nil (spl_ne 10 _)]; rfl, hb0⟩
  case round =>
    obtain ⟨i, f, P, hfi, hi1, hg, rfl, rfl, hPi, hown, hseg, hbw⟩ := hrel
    have hbz := hbw.size
    have hlenP : txS.len P = P.length := rfl
    have HSEG := Lib.hid hseg
    have HBW := Lib.hid hbw
    have HOWN := Lib.hid hown
    clear hseg hbw hown
    by_cases hin : i < s.size
    · have g1 : decide (i < s.size) = true := decide_eq_true hin
      have h10 : s[i] = 10 ↔ s[i].toNat = 10 := u8_eq (by decide)
      have hdi := HDB.out i hin
      obtain ⟨c, hc⟩ : ∃ c, c = s[i] := ⟨_, rfl⟩
      rw [← hc] at hdi h10
      have HC := Lib.hid hc
      have HDI := Lib.hid hdi
      clear hc hdi
      have htk : (l.take (i + 1)).drop f = (l.take i).drop f ++ [c] := by
        have e : l.take (i + 1) = l.take i ++ [c] := by
          rw [List.take_add_one]
          congr 1
          have : l[i]? = (l.drop i)[0]? := by rw [List.getElem?_drop]; rfl
          rw [this, HDI.out]; rfl
        rw [e, List.drop_append_of_le_length (by rw [List.length_take, HZ.out]; omega)]
      by_cases h1 : c.toNat = 10
      · have g2 : ((s[i].toNat : Int) == 10) = true := by rw [← HC.out]; simp; omega
        obtain ⟨T, hT⟩ : ∃ T, T = s.extract f i := ⟨_, rfl⟩
        have hTd : T.data.toList = (l.take i).drop f := by rw [hT, HXD.out]
        have hn : lines l = bl (P ++ [T]) ++ ahead ((l.take (i + 1)).drop (i + 1)) (spl 10 (l.drop (i + 1))) := by
          rw [HSEG.out, HDI.out, h10.2 h1, ahead_sep, bl_app]
          have e : (l.take (i + 1)).drop (i + 1) = [] := List.drop_eq_nil_of_le (by rw [List.length_take]; omega)
          rw [e, ahead_nil (spl_ne 10 _)]
          show _ = (bl P ++ [T.data.toList]) ++ _
          rw [hTd]; simp
        have HN := Lib.hid hn
        have hoA := HOWN.out.below (below_new0 wr (.cells #[.string T] 9))
        have HOA := Lib.hid hoA
        have HT := Lib.hid hT
        have hT2 : s.extract f i = T := hT.symm
        have hzW : w.heap.size ≤ (wr.alloc (.cells #[.string T] 9)).heap.size := by rw [World.size_alloc]; omega
        clear hn h10 h1 htk hoA hT hTd
        go_wp2_with (at_builtin; go_must (refine append_shp txS tyT _ rfl _ _ rfl HOA.out rfl (src_tx (s := T)) rfl (by rw [hlenP]; show (P.length + 1) * 17 ≤ _; omega) hzW ?_); intro v' w3 O3 hgrow hbel hkd)
        have hbn := hbel w (below_then HBW.out (below_new0 _ _))
        clear hgrow hbel hkd
        go_wp2_with fail
        go_roundg (s.size - i)
        case measure => omega
        case rel => exact ⟨i + 1, i + 1, P ++ [T], by omega, by omega, by omega, by go_num, by go_num, by rw [List.length_append]; show P.length + 1 ≤ _; omega, O3, HN.out, hbn⟩
      · have g2 : ((s[i].toNat : Int) == 10) = false := by rw [← HC.out]; simp; omega
        have hn : lines l = bl P ++ ahead ((l.take (i + 1)).drop f) (spl 10 (l.drop (i + 1))) := by
          rw [HSEG.out, HDI.out, ahead_byte (fun e => h1 (h10.1 e)), htk]
        have HN := Lib.hid hn
        clear hn h10 h1 htk
        go_wp2_with fail
        go_roundg (s.size - i)
        case measure => omega
        case rel => exact ⟨i + 1, f, P, by omega, by omega, by omega, rfl, by go_num, by omega, HOWN.out, HN.out, HBW.out⟩
    · have hie : i = s.size := by omega
      subst hie
      have g1 : decide (s.size < s.size) = false := by simp
      obtain ⟨T, hT⟩ : ∃ T, T = s.extract f s.size := ⟨_, rfl⟩
      have hTd : T.data.toList = (l.take s.size).drop f := by rw [hT, HXD.out]
      have hn : lines l = bl (P ++ [T]) := by
        have e0 : l.drop s.size = [] := List.drop_eq_nil_of_le (by rw [HZ.out]; exact Nat.le_refl _)
        rw [HSEG.out, bl_app, e0, ← hTd]
        show bl P ++ [T.data.toList ++ []] = bl P ++ [T.data.toList]
        rw [List.append_nil]
      have HN := Lib.hid hn
      have hoA := HOWN.out.below (below_new0 wr (.cells #[.string T] 9))
      have HOA := Lib.hid hoA
      have hT2 : s.extract f s.size = T := hT.symm
      have hzW : w.heap.size ≤ (wr.alloc (.cells #[.string T] 9)).heap.size := by rw [World.size_alloc]; omega
      have hlen3 : txS.len (P ++ [T]) = P.length + 1 := by show (P ++ [T]).length = _; rw [List.length_append]; rfl
      clear hn hoA hT hTd hin
      go_wp2_with (at_builtin; go_must (refine append_shp txS tyT _ rfl _ _ rfl HOA.out rfl (src_tx (s := T)) rfl (by rw [hlenP]; show (P.length + 1) * 17 ≤ _; omega) hzW ?_); intro v' w3 O3 hgrow hbel hkd)
      have hbn := hbel w (below_then HBW.out (below_new0 _ _))
      clear hgrow hbel hkd
      have O3' : txS.own 9 (fun _ => False) w.heap.size w3 v' (P ++ [T]) := O3
      have hlt := O3'.lt
      obtain ⟨p', c', hvv⟩ := O3'.form
      rw [hlen3] at hvv
      subst hvv
      have h4 := SL.of_sl (p := p') (c := c') (l := P ++ [T]) (by
        have := O3'.sl
        have e : (P ++ [T]).length = P.length + 1 := hlen3
        rw [e]; exact this)
      have h5 : ∃ b, p' = some ⟨b, 0, none⟩ ∧ w.heap.size ≤ b ∧ b < w3.heap.size := by
        obtain ⟨xs, h6, _⟩ := O3'
        rw [hlen3] at h6
        obtain ⟨g', cap', h7, h8, h9, h10, _⟩ := own_block h6 (Nat.succ_pos _)
        injection h7 with h7 _ _
        exact ⟨g', h7, h9, h10⟩
      obtain ⟨b, rfl, hb1, hb2⟩ := h5
      have H4 := Lib.hid h4
      clear O3 O3' hlt h4
      go_wp2_with fail
      go_ret
      exact ⟨P ++ [T], b, c', by show Ending.returned (.slice _ (P.length + 1) _) = .returned (.slice _ (P ++ [T]).length _); rw [show (P ++ [T]).length = P.length + 1 from hlen3], HN.out.symm, H4.out, hb1, hb2, hbn⟩
end Go.Proofs.YthieinfonomeeaaGreatDoor

namespace Go.Proofs.YthieinfonomeeaaGreatDoor
open Go.RowKit Doc Tit Inl Blk
set_option linter.unusedVariables false

def badd (l : Line) : Line := 32 :: l
theorem not_empty {l : Line} (h : l.all w3 = false) (h10 : ∀ x ∈ l, x ≠ 10) : emptyL (badd l) = false := by
  cases he : emptyL (badd l) with
  | false => rfl
  | true =>
    exfalso
    have h1 : ∀ x ∈ l, ws4 x = true := fun x hx => List.all_eq_true.1 he x (List.mem_cons_of_mem _ hx)
    have h2 : l.all w3 = true := List.all_eq_true.2 fun x hx => by
      have h3 := h1 x hx
      have h4 := h10 x hx
      simp only [ws4, w3, Bool.or_eq_true, beq_iff_eq] at h3 ⊢
      rcases h3 with ((h3 | h3) | h3) | h3
      · exact .inl (.inl h3)
      · exact absurd h3 h4
      · exact .inl (.inr h3)
      · exact .inr h3
    rw [h2] at h; cases h
theorem rtrim_badd (l : Line) : eqs (rtrim bt (badd l)) = 0 := by
  unfold rtrim badd
  rw [List.reverse_cons]
  have h : ∀ a : Line, ((a ++ [32]).dropWhile bt).reverse = [] ∨ ∃ t, ((a ++ [32]).dropWhile bt).reverse = 32 :: t := by
    intro a
    induction a with
    | nil => exact .inl rfl
    | cons x a ih =>
      rw [List.cons_append, List.dropWhile_cons]
      split
      · exact ih
      · exact .inr ⟨_, by rw [List.reverse_cons, List.reverse_append]; rfl⟩
  rcases h l.reverse with h | ⟨t, h⟩
  · rw [h]; rfl
  · rw [h]; rfl
theorem kind_badd {l : Line} (h : l.all w3 = false) (h10 : ∀ x ∈ l, x ≠ 10) : kindL (badd l) = 5 := by
  have h1 := not_empty h h10
  have h2 : Lib.hasPrefix (badd l) [123, 124] = false := rfl
  have h3 : (hd (badd l)).isSome = false := by
    unfold hd hdT
    rw [if_pos (.inl (rtrim_badd l))]; rfl
  have h4 : ruleL (badd l) = false := rfl
  have h5 : listL (badd l) = false := rfl
  have h6 : codeL (badd l) = true := rfl
  unfold kindL
  simp only [h1, h2, h3, h4, h5, h6]
  rfl
theorem blocks_code {s : Line} (hs : ∀ x ∈ s, x ≠ 38) (h : ∀ y ∈ lines s, y.all w3 = false) : blocks (joinL ((lines s).map badd)) = blk 6 0 s .nil .nil := by
  have hne : lines s ≠ [] := spl_ne 10 s
  have h10 : ∀ y ∈ lines s, ∀ x ∈ y, x ≠ 10 := spl_part 10 s
  rw [blocks_BL]
  have e : lines (joinL ((lines s).map badd)) = (lines s).map badd := spl_join _ (by simpa using hne) fun y hy => by
    obtain ⟨z, hz, rfl⟩ := List.mem_map.1 hy
    intro x hx
    rcases List.mem_cons.1 hx with rfl | hx
    · decide
    · exact h10 z hz x hx
  rw [e]
  have hj : joinL (lines s) = s := join_spl s
  cases hl : lines s with
  | nil => exact absurd hl hne
  | cons x r =>
    rw [hl] at h h10 hj
    have hk := kind_badd (h x List.mem_cons_self) (h10 x List.mem_cons_self)
    have ht : (r.map badd).takeWhile (fun l => !(emptyL l) && codeL l) = r.map badd := tw_self fun y hy => by
      obtain ⟨z, hz, rfl⟩ := List.mem_map.1 hy
      rw [not_empty (h z (List.mem_cons_of_mem _ hz)) (h10 z (List.mem_cons_of_mem _ hz))]; rfl
    rw [List.map_cons, BL_cons, first5 _ hk, ht]
    have hm : (badd x :: r.map badd).map (·.drop 1) = x :: r := by
      rw [List.map_cons, List.map_map]
      show x :: r.map (fun y => y) = _
      rw [List.map_id']
    rw [hm, hj, dec_pl hs]
    show (blk 6 0 s .nil .nil).app (BL ((badd x :: r.map badd).drop ((r.map badd).length + 1))) = _
    rw [List.drop_succ_cons, List.drop_length]
    rfl
end Go.Proofs.YthieinfonomeeaaGreatDoor
