/-
  The claim's own texts, packed. Conditions: those typed in each theorem.
-/
import Derived.Test.YthieinfonomeeaaGreatDoorZCab
namespace Go.Proofs.YthieinfonomeeaaGreatDoor
open Go.RowKit Doc Tit Inl Blk
set_option linter.unusedVariables false
def sumT : List It → Nat
 | [] => 0
 | x :: r => 3 * x.txt.length + sumT r
theorem sumT_app : ∀ a b : List It, sumT (a ++ b) = sumT a + sumT b
 | [], b => by simp [sumT]
 | x :: r, b => by simp only [List.cons_append, sumT, sumT_app r b]; omega
theorem sumT_split (n : Nat) (l : List It) : sumT (l.take n) + sumT (l.drop n) = sumT l := by rw [← sumT_app, List.take_append_drop]
theorem blk_size (a l : Int) (t : Line) (i : Ins) (k : Bls) : (blk a l t i k).size = i.size + k.size + 1 := by
 show i.size + k.size + 0 + 1 = _; omega
theorem lists_size : ∀ N : Nat, (∀ (d : Nat) (l : List It), 2 * sumD d l ≤ N → Deep d l → (LI d l).size ≤ 4 * sumD d l + sumT l) ∧ (∀ (d : Nat) (l : List It), 2 * sumD d l ≤ N + 1 → Deep d l → (IT d l).size ≤ 4 * sumD d l - 1 + sumT l) := by
 intro N
 induction N with
 | zero =>
   refine ⟨fun d l h hd => ?_, fun d l h hd => ?_⟩
   ·rw [sum_pos_nil hd (by omega), LI_nil]; exact Nat.zero_le _
   ·rw [sum_pos_nil hd (by omega), IT_nil]; exact Nat.zero_le _
 | succ N ih =>
   obtain ⟨ih1, ih2⟩ := ih
   refine ⟨fun d l h hd => ?_, fun d l h hd => ?_⟩
   ·cases l with
    | nil => rw [LI_nil]; exact Nat.zero_le _
    | cons x r =>
      rw [LI_cons hd, Bls.size_app, blk_size]
      generalize hn : Blk.runN d x.pre[d]? r = n
      have hs := sumD_split d (n + 1) (x :: r)
      have hs2 := sumT_split (n + 1) (x :: r)
      have ht : 1 ≤ sumD d ((x :: r).take (n + 1)) := by rw [List.take_succ_cons, sumD_cons]; have := hd x List.mem_cons_self; omega
      have h1 := ih2 d ((x :: r).take (n + 1)) (by omega) (hd.take _)
      have h2 := ih1 d ((x :: r).drop (n + 1)) (by omega) (hd.drop _)
      have e0 : Ins.nil.size = 0 := rfl
      omega
   ·cases l with
    | nil => rw [IT_nil]; exact Nat.zero_le _
    | cons x r =>
      by_cases hx : x.pre.length = d + 1
      ·rw [IT_head hd hx, Bls.size_app, blk_size]
       have h4 : Deep (d + 1) (r.take (deepN d r)) := deep_take r
       generalize hn : deepN d r = n at *
       have hs := sumD_split d n r
       have hs2 := sumT_split n r
       have hsc := sumD_cons d x r
       have hst : sumT (x :: r) = 3 * x.txt.length + sumT r := rfl
       have h3 := sumD_succ d (r.take n) (hd.tail.take n)
       have h1 := ih1 (d + 1) (r.take n) (by omega) h4
       have h2 := ih2 d (r.drop n) (by omega) (hd.tail.drop n)
       have h5 := read_size x.txt
       omega
      ·rw [IT_deep hd hx, Bls.size_app, blk_size]
       have hx2 : d + 1 < x.pre.length := by have := hd x List.mem_cons_self; omega
       have hnp := deepN_pos (r := r) hx2
       have h4 : Deep (d + 1) ((x :: r).take (deepN d (x :: r))) := deep_take _
       generalize hn : deepN d (x :: r) = n at *
       have hs := sumD_split d n (x :: r)
       have hs2 := sumT_split n (x :: r)
       have h3 := sumD_succ d ((x :: r).take n) (hd.take n)
       have hl : 1 ≤ ((x :: r).take n).length := by rw [hnp]; simp
       have h1 := ih1 (d + 1) ((x :: r).take n) (by omega) h4
       have h2 := ih2 d ((x :: r).drop n) (by omega) (hd.drop n)
       have e0 : Ins.nil.size = 0 := rfl
       omega
theorem item_sum : ∀ l : List Line, 4 * sumD 0 (l.map item) + sumT (l.map item) ≤ 4 * Blk.tot l
 | [] => Nat.le_refl _
 | x :: r => by
   have ih := item_sum r
   rw [List.map_cons, sumD_cons, Blk.tot]
   show 4 * ((x.takeWhile star).length - 0 + _) + (3 * (trimW ws4 (x.dropWhile star)).length + _) ≤ _
   have h1 := trimW_le ws4 (x.dropWhile star)
   have h2 := congrArg List.length (List.takeWhile_append_dropWhile (p := star) (l := x))
   rw [List.length_append] at h2
   omega
theorem cells_size : ∀ c : List Cell, (cellsB c).size ≤ 3 * rt c
 | [] => Nat.le_refl _
 | (k, t) :: r => by
   have ih := cells_size r
   have h1 := read_size (trimW ws4 t)
   have h2 := trimW_le ws4 t
   have h3 : rt ((k, t) :: r) = t.length + 1 + rt r := rfl
   show (read (trimW ws4 t)).size + 0 + (cellsB r).size + 1 ≤ _
   omega
def rtA : List (List Cell) → Nat
 | [] => 0
 | c :: r => rt c + 1 + rtA r
theorem rows_size : ∀ a : List (List Cell), (rowsB a).size ≤ 3 * rtA a
 | [] => Nat.le_refl _
 | c :: r => by
   have ih := rows_size r
   have h1 := cells_size c
   rw [rowsB]
   split
   ·show _ ≤ 3 * (rt c + 1 + rtA r); omega
   ·show 0 + (cellsB c).size + (rowsB r).size + 1 ≤ 3 * (rt c + 1 + rtA r); omega
theorem rtA_app : ∀ a b : List (List Cell), rtA (a ++ b) = rtA a + rtA b
 | [], b => by simp [rtA]
 | c :: r, b => by simp only [List.cons_append, rtA, rtA_app r b]; omega
theorem tab_grow (T : Tab) (l : Line) : rtA (tabStep T l).rows + rt (tabStep T l).row ≤ rtA T.rows + rt T.row + l.length + 1 := by
 unfold tabStep
 split
 ·show rtA (T.rows ++ [T.row]) + rt [] ≤ _
  rw [rtA_app]
  show rtA T.rows + (rt T.row + 1 + 0) + 0 ≤ _
  omega
 ·split
  ·show rtA T.rows + rt (T.row ++ _) ≤ _
   rw [rt_app, rt_map]
   have h1 := Blk.spl2_tot 124 (l.drop 1)
   rw [List.length_drop] at h1
   omega
  ·split
   ·show rtA T.rows + rt (T.row ++ _) ≤ _
    rw [rt_app, rt_map]
    have h1 := Blk.spl2_tot 33 (l.drop 1)
    rw [List.length_drop] at h1
    omega
   ·show rtA T.rows + rt (moreT l T.row) ≤ _
    have := rt_more l T.row
    omega
theorem tab_fold : ∀ (ls : List Line) (T : Tab), rtA (ls.foldl tabStep T).rows + rt (ls.foldl tabStep T).row ≤ rtA T.rows + rt T.row + Blk.tot ls
 | [], T => Nat.le_refl _
 | l :: ls, T => by
   have h1 := tab_fold ls (tabStep T l)
   have h2 := tab_grow T l
   rw [List.foldl_cons, Blk.tot]
   omega
theorem table_size (l : List Line) : (tableB l).size ≤ 3 * Blk.tot l + 4 := by
 unfold tableB
 rw [blk_size]
 have h1 := rows_size (tabOf l)
 have h2 := tab_fold l ⟨[], []⟩
 have e0 : Ins.nil.size = 0 := rfl
 have h3 : rtA (tabOf l) = rtA (l.foldl tabStep ⟨[], []⟩).rows + (rt (l.foldl tabStep ⟨[], []⟩).row + 1 + 0) := by
  unfold tabOf
  rw [rtA_app]; rfl
 have h4 : rtA ([] : List (List Cell)) + rt ([] : List Cell) = 0 := rfl
 have h5 : rtA (⟨[], []⟩ : Tab).rows + rt (⟨[], []⟩ : Tab).row = 0 := rfl
 omega
theorem tot_tw (p : Line → Bool) : ∀ r : List Line, Blk.tot (r.takeWhile p) ≤ Blk.tot (r.take (r.takeWhile p).length)
 | [] => Nat.le_refl _
 | x :: r => by
   rw [take_twp]; exact Nat.le_refl _
theorem first_size (x : Line) (r : List Line) : (firstB (x :: r)).1.size ≤ 4 * Blk.tot ((x :: r).take (firstB (x :: r)).2) := by
 have h6 := kindL_le x
 obtain ⟨k, hk⟩ : ∃ k, kindL x = k := ⟨_, rfl⟩
 rw [hk] at h6
 match k, h6, hk with
 | 0, _, hk => rw [first0 _ hk]; exact Nat.zero_le _
 | 1, _, hk =>
   rw [first1 _ hk]
   show (tableB _).size ≤ 4 * Blk.tot ((x :: r).take (min _ _))
   have h1 := table_size (r.takeWhile fun l => !(Lib.hasPrefix l [124, 125]))
   have h2 := tot_tw (fun l => !(Lib.hasPrefix l [124, 125])) r
   have h4 := twl_le (fun l => !(Lib.hasPrefix l [124, 125])) r
   have hkp := kind1_pre hk
   have h5 : 2 ≤ x.length := by have := hp_le hkp; simpa using this
   generalize (r.takeWhile fun l => !(Lib.hasPrefix l [124, 125])) = q at *
   have h3 : Blk.tot (r.take q.length) + x.length + 1 ≤ Blk.tot ((x :: r).take (min (q.length + 2) (r.length + 1))) := by
    have e : (x :: r).take (min (q.length + 2) (r.length + 1)) = x :: r.take (min (q.length + 1) r.length) := by
     rw [show min (q.length + 2) (r.length + 1) = min (q.length + 1) r.length + 1 by omega, List.take_succ_cons]
    rw [e, Blk.tot]
    have h7 := Blk.tot_take q.length (r.take (min (q.length + 1) r.length))
    rw [List.take_take, show min q.length (min (q.length + 1) r.length) = q.length by omega] at h7
    omega
   omega
 | 2, _, hk =>
   rw [first2 _ hk]
   have h1 := kind2_some hk
   cases h2 : hd x with
   | none => rw [h2] at h1; cases h1
   | some y =>
     obtain ⟨n, T⟩ := y
     have h3 := hd_len h2
     have h4 := read_size T
     show (blk 1 (n : Int) [] (read T) .nil).size ≤ 4 * Blk.tot [x]
     rw [blk_size]
     show (read T).size + 0 + 1 ≤ 4 * (x.length + 1 + 0)
     omega
 | 3, _, hk =>
   rw [first3 _ hk]
   show 0 + 0 + 0 + 1 ≤ 4 * (x.length + 1 + 0)
   omega
 | 4, _, hk =>
   rw [first4 _ hk]
   have hd : Deep 0 ((x :: r.takeWhile listL).map item) := by
    intro y hy
    obtain ⟨s, hs, rfl⟩ := List.mem_map.1 hy
    have h1 : listL s = true := by
     rcases List.mem_cons.1 hs with rfl | hs
     ·exact kind4_list hk
     ·exact List.all_eq_true.1 (List.all_takeWhile (p := listL) (l := r)) _ hs
    show 0 < (s.takeWhile star).length
    cases s with
    | nil => cases h1
    | cons a q =>
      have h2 : star a = true := h1
      rw [List.takeWhile_cons, if_pos h2]
      simp
   show (lists 0 _).size ≤ 4 * Blk.tot ((x :: r).take ((r.takeWhile listL).length + 1))
   rw [lists_eq hd, List.take_succ_cons, take_twp]
   exact Nat.le_trans ((lists_size _).1 0 _ (Nat.le_refl _) hd) (item_sum _)
 | 5, _, hk =>
   rw [first5 _ hk]
   show 0 + 0 + 0 + 1 ≤ 4 * Blk.tot ((x :: r).take (_ + 1))
   rw [List.take_succ_cons, Blk.tot]
   omega
 | 6, _, hk =>
   rw [first6 _ hk]
   show (blk 2 0 [] (read (joinL (x :: r.takeWhile fun l => decide (kindL l = 6)))) .nil).size ≤ 4 * Blk.tot ((x :: r).take ((r.takeWhile fun l => decide (kindL l = 6)).length + 1))
   rw [blk_size, List.take_succ_cons, take_twp]
   have h1 := read_size (joinL (x :: r.takeWhile fun l => decide (kindL l = 6)))
   have h2 := joinL_len (x :: r.takeWhile fun l => decide (kindL l = 6))
   have h3 : 1 ≤ Blk.tot (x :: r.takeWhile fun l => decide (kindL l = 6)) := by rw [Blk.tot]; omega
   have e0 : Bls.nil.size = 0 := rfl
   omega
theorem BL_size : ∀ (N : Nat) (l : List Line), l.length ≤ N → (BL l).size ≤ 4 * Blk.tot l
 | _, [], _ => Nat.zero_le _
 | N + 1, x :: r, h => by
   rw [BL_cons, Bls.size_app]
   have hp := (firstB_pos x r).1
   have h1 := first_size x r
   generalize (firstB (x :: r)).2 = n at *
   have h2 := BL_size N ((x :: r).drop n) (by rw [List.length_drop]; rw [List.length_cons] at *; omega)
   have h3 := tot_app ((x :: r).take n) ((x :: r).drop n)
   rw [List.take_append_drop] at h3
   omega
theorem blocks_size (s : Line) : (blocks s).size ≤ 4 * s.length + 4 := by
 rw [blocks_BL]
 have h1 := BL_size _ (lines s) (Nat.le_refl _)
 have h2 : Blk.tot (lines s) = s.length + 1 := spl_tot 10 s
 omega
end Go.Proofs.YthieinfonomeeaaGreatDoor
