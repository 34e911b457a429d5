/-
  Tables whose cells hold few texts. No conditions.
-/
import Derived.Test.YthieinfonomeeaaGreatDoorCab
import Derived.Lib.Join

namespace Go.Proofs.YthieinfonomeeaaGreatDoor
open Go.RowKit Doc Tit Inl Blk
set_option linter.unusedVariables false

def threeL : List Line := [[97], [98, 32, 99], [49]]
/-- the texts of a row put together -/
def joinS (r : List Line) : Line := Lib.join r [32, 124, 124, 32]
theorem joinS_one (c : Line) : joinS [c] = c := Lib.join_one _ _
theorem joinS_cons (c d : Line) (r : List Line) : joinS (c :: d :: r) = c ++ [32] ++ 124 :: 124 :: ([32] ++ joinS (d :: r)) := by
  unfold joinS
  simp [Lib.join, List.intercalate, List.intersperse]
theorem spl2_skip (a : UInt8) : ∀ (y x : Line), (∀ c ∈ y, c ≠ a) → spl2 a (y ++ a :: a :: x) = y :: spl2 a x
  | [], x, _ => by rw [List.nil_append, spl2, if_pos ⟨rfl, rfl⟩]
  | [b], x, h => by
    have hb := h b List.mem_cons_self
    show spl2 a (b :: a :: a :: x) = _
    rw [spl2, if_neg (fun e => hb e.1), spl2, if_pos ⟨rfl, rfl⟩]
    rfl
  | b :: c :: y, x, h => by
    have hb := h b List.mem_cons_self
    have ih := spl2_skip a (c :: y) x fun d hd => h d (List.mem_cons_of_mem _ hd)
    show spl2 a (b :: c :: (y ++ a :: a :: x)) = _
    rw [spl2, if_neg (fun e => hb e.1)]
    rw [List.cons_append] at ih
    rw [ih]
    rfl
theorem spl2_clear (a : UInt8) : ∀ (y : Line), (∀ c ∈ y, c ≠ a) → spl2 a y = [y]
  | [], _ => rfl
  | [b], _ => rfl
  | b :: c :: y, h => by
    have hb := h b List.mem_cons_self
    rw [spl2, if_neg (fun e => hb e.1), spl2_clear a (c :: y) fun d hd => h d (List.mem_cons_of_mem _ hd)]
    rfl
def cellR : List Line → Bls
  | [] => .nil
  | c :: r => .cons 9 0 ⟨#[]⟩ (txt c) .nil (cellR r)
def tabR : List (List Line) → Bls
  | [] => .nil
  | r :: R => .cons 8 0 ⟨#[]⟩ .nil (cellR r) (tabR R)
theorem cellR_len : ∀ r : List Line, (cellR r).len = r.length
  | [] => rfl
  | c :: r => by rw [cellR, Bls.len, cellR_len r]; rfl
theorem tabR_len : ∀ r : List (List Line), (tabR r).len = r.length
  | [] => rfl
  | c :: r => by rw [tabR, Bls.len, tabR_len r]; rfl
def okC (c : Line) : Bool := c.all (fun b => b != 124 && b != 10) && (trimW ws4 c == c) && (trimW ws4 (c ++ [32]) == c) && (trimW ws4 ([32] ++ c) == c) && (trimW ws4 ([32] ++ c ++ [32]) == c) && !(c == []) && c.all (fun b => b != 91 && b != 60 && b != 38 && b != 39)
theorem three_ok : (threeL.all okC) = true := by kernel_rfl
theorem three_not : (threeL.all fun c => c.head? != some 45 && c.head? != some 125 && !(c == [])) = true := by kernel_rfl
theorem read_c {c : Line} (h : okC c = true) : read c = txt c := by
  simp only [okC, Bool.and_eq_true] at h
  have h7 := h.2
  have h6 := h.1.2
  rw [read_pl (fun x hx => by
    have := List.all_eq_true.1 h7 x hx
    simp only [Bool.and_eq_true, bne_iff_ne, ne_eq] at this
    exact ⟨this.1.1.1, this.1.1.2, this.1.2, this.2⟩), if_neg (by simpa using h6)]
theorem cell_parts (y : Line) (hy : y = [] ∨ y = [32]) : ∀ (r : List Line), r ≠ [] → (∀ c ∈ r, c ∈ threeL) → cellsB ((spl2 124 (y ++ joinS r)).map fun t => (0, t)) = cellR r := by
  intro r
  induction r generalizing y with
  | nil => intro h; exact absurd rfl h
  | cons c r ih =>
    intro _ h
    have hc := List.all_eq_true.1 three_ok c (h c List.mem_cons_self)
    have hrd := read_c hc
    simp only [okC, Bool.and_eq_true, beq_iff_eq] at hc
    obtain ⟨⟨⟨⟨⟨⟨h1, h2⟩, h3⟩, h4⟩, h5⟩, h6⟩, h7⟩ := hc
    have hno : ∀ x ∈ c, x ≠ 124 := fun x hx => by
      have := List.all_eq_true.1 h1 x hx
      simp only [Bool.and_eq_true, bne_iff_ne, ne_eq] at this
      exact this.1
    have hyno : ∀ x ∈ y, x ≠ 124 := by
      rcases hy with rfl | rfl
      · intro x hx; cases hx
      · intro x hx
        have : x = 32 := by simpa using hx
        subst this; decide
    cases r with
    | nil =>
      rw [joinS_one, spl2_clear 124 (y ++ c) fun x hx => (List.mem_append.1 hx).elim (hyno x) (hno x)]
      have ht : trimW ws4 (y ++ c) = c := by
        rcases hy with rfl | rfl
        · exact h2
        · exact h4
      show Bls.cons 9 (0 : Nat) ⟨#[]⟩ (read (trimW ws4 (y ++ c))) .nil .nil = _
      rw [ht, hrd]
      rfl
    | cons d r =>
      have e : y ++ joinS (c :: d :: r) = (y ++ c ++ [32]) ++ 124 :: 124 :: ([32] ++ joinS (d :: r)) := by rw [joinS_cons]; simp
      rw [e, spl2_skip 124 (y ++ c ++ [32]) _ fun x hx => by
        rcases List.mem_append.1 hx with hx | hx
        · exact (List.mem_append.1 hx).elim (hyno x) (hno x)
        · have : x = 32 := by simpa using hx
          subst this; decide]
      have ht : trimW ws4 (y ++ c ++ [32]) = c := by
        rcases hy with rfl | rfl
        · exact h3
        · exact h5
      rw [List.map_cons]
      show Bls.cons 9 (0 : Nat) ⟨#[]⟩ (read (trimW ws4 (y ++ c ++ [32]))) .nil (cellsB _) = _
      rw [ht, hrd, ih [32] (.inr rfl) (by simp) fun x hx => h x (List.mem_cons_of_mem _ hx)]
      rfl
/-- the cells of a row's line -/
def rowC (r : List Line) : List Cell := (spl2 124 (joinS r)).map fun t => (0, t)
theorem rowC_B {r : List Line} (h0 : r ≠ []) (h : ∀ c ∈ r, c ∈ threeL) : cellsB (rowC r) = cellR r := cell_parts [] (.inl rfl) r h0 h
theorem rowC_ne (r : List Line) : rowC r ≠ [] := by
  unfold rowC
  intro e
  exact spl2_ne 124 _ (List.map_eq_nil_iff.1 e)
/-- the lines of the rows -/
def rowLs : List (List Line) → List Line
  | [] => []
  | r :: R => [124, 45] :: (124 :: joinS r) :: rowLs R
def Rows3 (R : List (List Line)) : Prop := ∀ r ∈ R, r ≠ [] ∧ ∀ c ∈ r, c ∈ threeL
theorem joinS_head {r : List Line} (h0 : r ≠ []) (h : ∀ c ∈ r, c ∈ threeL) : ∃ b t, joinS r = b :: t ∧ b ≠ 45 ∧ b ≠ 125 := by
  cases r with
  | nil => exact absurd rfl h0
  | cons c r =>
    have hc := List.all_eq_true.1 three_not c (h c List.mem_cons_self)
    cases c with
    | nil => simp at hc
    | cons b t =>
      simp at hc
      cases r with
      | nil => exact ⟨b, t, joinS_one _, hc.1, hc.2⟩
      | cons d r => exact ⟨b, _, by rw [joinS_cons]; rfl, hc.1, hc.2⟩
theorem tab_fold3 : ∀ (R : List (List Line)) (T : Tab), Rows3 R → ((rowLs R).foldl tabStep T).rows ++ [((rowLs R).foldl tabStep T).row] = T.rows ++ T.row :: R.map rowC
  | [], T, _ => rfl
  | r :: R, T, h => by
    obtain ⟨h0, h1⟩ := h r List.mem_cons_self
    obtain ⟨b, t, hb, hb1, hb2⟩ := joinS_head h0 h1
    have e1 : tabStep T [124, 45] = ⟨T.rows ++ [T.row], []⟩ := rfl
    have e2 : tabStep ⟨T.rows ++ [T.row], []⟩ (124 :: joinS r) = ⟨T.rows ++ [T.row], rowC r⟩ := by
      have p1 : Lib.hasPrefix (124 :: joinS r) [124, 45] = false := by
        rw [hb, hp_cons, hp_cons]
        have : ((45 : UInt8) == b) = false := by simpa using fun e : (45 : UInt8) = b => hb1 e.symm
        rw [this]; rfl
      have p2 : Lib.hasPrefix (124 :: joinS r) [124] = true := by
        rw [hp_cons]
        have : Lib.hasPrefix (joinS r) [] = true := by cases joinS r <;> rfl
        rw [this]; rfl
      unfold tabStep
      rw [if_neg (by rw [p1]; decide), if_pos p2]
      rfl
    rw [rowLs, List.foldl_cons, e1, List.foldl_cons, e2, tab_fold3 R _ fun x hx => h x (List.mem_cons_of_mem _ hx)]
    simp
theorem rows3_B : ∀ (R : List (List Line)), Rows3 R → rowsB (R.map rowC) = tabR R
  | [], _ => rfl
  | r :: R, h => by
    obtain ⟨h0, h1⟩ := h r List.mem_cons_self
    rw [List.map_cons, rowsB, if_neg (rowC_ne r), rowC_B h0 h1, rows3_B R fun x hx => h x (List.mem_cons_of_mem _ hx)]
    rfl
theorem tab3 {R : List (List Line)} (h : Rows3 R) : tableB (rowLs R) = blk 7 0 [] .nil (tabR R) := by
  unfold tableB
  have e : tabOf (rowLs R) = [] :: R.map rowC := by
    show ((rowLs R).foldl tabStep ⟨[], []⟩).rows ++ [((rowLs R).foldl tabStep ⟨[], []⟩).row] = _
    rw [tab_fold3 R _ h]; rfl
  rw [e]
  have e2 : rowsB ([] :: R.map rowC) = rowsB (R.map rowC) := by rw [rowsB, if_pos rfl]
  rw [e2, rows3_B R h]
/-- the text -/
def txtT : List (List Line) → Line
  | [] => []
  | r :: R => [124, 45, 10, 124] ++ joinS r ++ [10] ++ txtT R
theorem txtT_snoc (r : List Line) : ∀ R : List (List Line), txtT (R ++ [r]) = txtT R ++ ([124, 45, 10, 124] ++ joinS r ++ [10])
  | [] => by simp [txtT]
  | a :: R => by rw [List.cons_append, txtT, txtT, txtT_snoc r R]; simp
theorem joinS_nl : ∀ {r : List Line}, (∀ c ∈ r, c ∈ threeL) → ∀ x ∈ joinS r, x ≠ 10
  | [], _, x, hx => by
    have : joinS [] = [] := rfl
    rw [this] at hx; cases hx
  | c :: r, h, x, hx => by
    have hc := List.all_eq_true.1 three_ok c (h c List.mem_cons_self)
    simp only [okC, Bool.and_eq_true] at hc
    have h1 := hc.1.1.1.1.1.1
    have hn : ∀ x ∈ c, x ≠ 10 := fun x hx => by
      have := List.all_eq_true.1 h1 x hx
      simp only [Bool.and_eq_true, bne_iff_ne, ne_eq] at this
      exact this.2
    cases r with
    | nil => rw [joinS_one] at hx; exact hn x hx
    | cons d r =>
      rw [joinS_cons] at hx
      have ih := joinS_nl (r := d :: r) fun x hx => h x (List.mem_cons_of_mem _ hx)
      simp only [List.mem_append, List.mem_cons, List.not_mem_nil, or_false] at hx
      rcases hx with (hx | rfl) | rfl | rfl | rfl | hx
      · exact hn x hx
      · decide
      · decide
      · decide
      · decide
      · exact ih x hx
theorem lines_txtT : ∀ (R : List (List Line)), Rows3 R → spl 10 (txtT R ++ [124, 125]) = rowLs R ++ [[124, 125]]
  | [], _ => rfl
  | r :: R, h => by
    obtain ⟨h0, h1⟩ := h r List.mem_cons_self
    have e : txtT (r :: R) ++ [124, 125] = [124, 45] ++ 10 :: ((124 :: joinS r) ++ 10 :: (txtT R ++ [124, 125])) := by rw [txtT]; simp
    have hn := joinS_nl h1
    rw [e, spl_app, spl_app, spl_none 10 [124, 45] (by decide), spl_none 10 (124 :: joinS r) fun x hx => by
      rcases List.mem_cons.1 hx with rfl | hx
      · decide
      · exact hn x hx, lines_txtT R fun x hx => h x (List.mem_cons_of_mem _ hx)]
    rfl
theorem rowLs_open : ∀ (R : List (List Line)), Rows3 R → ∀ l ∈ rowLs R, (!(Lib.hasPrefix l [124, 125])) = true
  | r :: R, h, l, hl => by
    obtain ⟨h0, h1⟩ := h r List.mem_cons_self
    obtain ⟨b, t, hb, hb1, hb2⟩ := joinS_head h0 h1
    rw [rowLs] at hl
    rcases List.mem_cons.1 hl with rfl | hl
    · rfl
    · rcases List.mem_cons.1 hl with rfl | hl
      · rw [hb, hp_cons, hp_cons]
        have : ((125 : UInt8) == b) = false := by simpa using fun e : (125 : UInt8) = b => hb2 e.symm
        rw [this]; rfl
      · exact rowLs_open R (fun x hx => h x (List.mem_cons_of_mem _ hx)) l hl
theorem blocks_tab {R : List (List Line)} (h : Rows3 R) : blocks ([123, 124, 10] ++ txtT R ++ [124, 125]) = blk 7 0 [] .nil (tabR R) := by
  rw [blocks_BL]
  have e : lines ([123, 124, 10] ++ txtT R ++ [124, 125]) = [123, 124] :: (rowLs R ++ [[124, 125]]) := by
    have e2 : [123, 124, 10] ++ txtT R ++ [124, 125] = [123, 124] ++ 10 :: (txtT R ++ [124, 125]) := by simp
    show spl 10 _ = _
    rw [e2, spl_app, spl_none 10 [123, 124] (by decide), lines_txtT R h]
    rfl
  have hk : kindL [123, 124] = 1 := rfl
  rw [e, BL_cons, first1 _ hk, tw_halt (fun l => !(Lib.hasPrefix l [124, 125])) [124, 125] rfl, tw_self (rowLs_open R h), tab3 h]
  have e3 : ([123, 124] :: (rowLs R ++ [[124, 125]])).drop (min ((rowLs R).length + 2) ((rowLs R ++ [[124, 125]]).length + 1)) = [] :=
    List.drop_eq_nil_of_le (by rw [List.length_cons, List.length_append, List.length_singleton]; omega)
  show (blk 7 0 [] .nil (tabR R)).app (BL (([123, 124] :: (rowLs R ++ [[124, 125]])).drop (min ((rowLs R).length + 2) ((rowLs R ++ [[124, 125]]).length + 1)))) = _
  rw [e3]
  rfl
/-- how long such texts are -/
theorem joinS_size : ∀ (r : List Line), (∀ c ∈ r, c ∈ threeL) → (joinS r).length ≤ 7 * r.length
  | [], _ => Nat.le_refl _
  | [c], h => by
    rw [joinS_one]
    have h3 : (threeL.all fun c => decide (c.length ≤ 3)) = true := by decide
    have := of_decide_eq_true (List.all_eq_true.1 h3 c (h c List.mem_cons_self))
    show _ ≤ 7 * 1
    omega
  | c :: d :: r, h => by
    have h3 : (threeL.all fun c => decide (c.length ≤ 3)) = true := by decide
    have h4 := of_decide_eq_true (List.all_eq_true.1 h3 c (h c List.mem_cons_self))
    have ih := joinS_size (d :: r) fun x hx => h x (List.mem_cons_of_mem _ hx)
    rw [joinS_cons]
    simp only [List.length_append, List.length_cons, List.length_nil] at ih ⊢
    omega
end Go.Proofs.YthieinfonomeeaaGreatDoor
