/-
  The law FormulaLevels, walked: it answers true, and writes nothing that was there. No conditions but those typed in each theorem.
-/
import Derived.Test.YtlkfnpmcihfjmaaDoorFormInt
import Derived.Test.YtlkfnpmcihfjmaaDoorMask
namespace Go.Proofs.YtlkfnpmcihfjmaaDoor
open Go.RowKit
set_option linter.unusedVariables false

theorem nd_cons {c : UInt8} {l : List UInt8} (h1 : Num.isD c = false) (h2 : c ≠ 46) : Form.NoDig1 (c :: l) := fun d r e => by cases e; exact ⟨h1, h2⟩
theorem nd_nil : Form.NoDig1 [] := fun d r e => by cases e
def nest : Nat → Form.Tree
  | 0 => .num ⟨#[55]⟩
  | k + 1 => .un ⟨#[40]⟩ (nest k)
def nestX : Nat → List ByteArray
  | 0 => [⟨#[55]⟩]
  | k + 1 => ⟨#[40]⟩ :: nestX k ++ [⟨#[41]⟩]
def nestT : Nat → List UInt8
  | 0 => [55]
  | k + 1 => 40 :: nestT k ++ [41]
theorem nest_levels (k : Nat) : (nest k).levels = k + 1 := by
  induction k with
  | zero => rfl
  | succ k ih => rw [nest, Form.Tree.levels, ih]; omega
theorem nest_val (k : Nat) : Val (nest k) (7, 1, 0) := by
  induction k with
  | zero => exact val_int [55] (by decide) (by decide) (by decide)
  | succ k ih => exact val_un (by decide) ih (by decide)
theorem nest_read (k : Nat) : Form.Pr (nestX k) (nest k) ∧ Form.Plain (nestX k) := by
  induction k with
  | zero => exact ⟨Form.Pr.num (by decide), Form.plain_num (by decide)⟩
  | succ k ih => exact ⟨Form.Rd.par (Form.Rd.all ih.2 ih.1.up7).1, Form.plain_par _⟩
theorem nest_text (k : Nat) : Form.Adds (nestT k) (nestX k) Form.NoDig1 := by
  induction k with
  | zero => exact Form.adds_num (by decide) (by decide) (by decide)
  | succ k ih =>
    have o := Form.adds_one (c := 40) (by decide) (by decide) (by decide) (by decide) (by decide)
    have c := Form.adds_one (c := 41) (by decide) (by decide) (by decide) (by decide) (by decide)
    have h := o.app (ih.app c (fun l _ => nd_cons (by decide) (by decide))) (fun _ _ => trivial)
    intro l hl
    have := h l trivial
    simpa [nestT, nestX] using this
theorem nest_rep (k : Nat) : nestT k = List.replicate k 40 ++ ([55] ++ List.replicate k 41) := by
  induction k with
  | zero => rfl
  | succ k ih =>
    rw [nestT, ih, List.replicate_succ, List.replicate_succ' (n := k) (a := (41 : UInt8))]
    simp
theorem nest_eval (k : Nat) (hk : k ≤ 31) : EvalR ⟨(nestT k).toArray⟩ (if k + 1 ≤ 20 then (7, 1, 0) else (0, 0, 17)) := by
  have hz : (⟨(nestT k).toArray⟩ : ByteArray).size ≤ 400 := by
    show (nestT k).length ≤ 400
    rw [nest_rep]; simp; omega
  have ht := (nest_text k).whole nd_nil
  obtain ⟨h1, h2⟩ := nest_read k
  obtain ⟨f, hf⟩ := (Form.Rd.all h2 h1.up7).1.whole
  have hl := nest_levels k
  split
  · exact .val hz ht hf (by omega) (nest_val k)
  · exact .deep hz ht hf (by omega)
theorem repeatL_one (c : UInt8) (k : Nat) : Lib.repeatL [c] k = List.replicate k c := by
  induction k with
  | zero => rfl
  | succ k ih => simp [Lib.repeatL, List.replicate_succ] at ih ⊢ <;> try exact ih
theorem rep_any (c : UInt8) (k : Nat) (hk : k ≤ 1000) (w : World) :
    Calls Tryd.prog 21 #[.string ⟨#[c]⟩, .int .i64 k] w fun e w' => e = .returned (.string ⟨(List.replicate k c).toArray⟩) ∧ Below w.heap.size w w' := by
  by_cases h0 : k = 0
  · subst h0
    exact (Tryd.strings_Repeat_zero ⟨#[c]⟩ w).mono fun e w' ⟨h1, h2⟩ => ⟨h1, by rw [h2]; exact Below.refl _ _⟩
  · by_cases h1 : k = 1
    · subst h1
      exact (Tryd.strings_Repeat_one ⟨#[c]⟩ w).mono fun e w' ⟨h1, h2⟩ => ⟨h1, by rw [h2]; exact Below.refl _ _⟩
    · have hz : (⟨#[c]⟩ : ByteArray).size = 1 := rfl
      have := Tryd.strings_Repeat_main ⟨#[c]⟩ k w (by omega) (by omega) (by rw [hz]; omega) (by rw [hz]; omega)
      rw [show (⟨#[c]⟩ : ByteArray).data.toList = [c] by rfl, repeatL_one] at this
      exact this
set_option maxRecDepth 10000 in
set_option maxHeartbeats 1000000 in
theorem levels_walk (n : Int) (k : Nat) (A B : ByteArray) (w : World) (hk : k ≤ 31) (hB : bits BinOp.and IntKind.i64 n 31 = (k : Int)) (hA : A.size ≤ 31) (hC : B.size ≤ 31)
    (h1 : ∀ w, Calls Tryd.prog 21 #[.string ⟨#[40]⟩, .int .i64 k] w fun e w' => e = .returned (.string A) ∧ Below w.heap.size w w')
    (h2 : ∀ w, Calls Tryd.prog 21 #[.string ⟨#[41]⟩, .int .i64 k] w fun e w' => e = .returned (.string B) ∧ Below w.heap.size w w')
    (x y z : Int) (hr : 20 < k + 1 ∧ x = 0 ∧ y = 0 ∧ z = 17 ∨ k + 1 ≤ 20 ∧ x = 7 ∧ y = 1 ∧ z = 0)
    (hE : ∀ w, Calls Tryd.prog 9 #[.string (A ++ ⟨#[55]⟩ ++ B)] w fun e w' => e = .returned (.tuple #[.agg #[.int .i64 x, .int .i64 y], .int .i64 z]) ∧ Below w.heap.size w w') :
    Calls Tryd.prog 8 #[.int .i64 n] w fun e w' => e = .returned (.bool true) ∧ Below w.heap.size w w' := by
  rcases hr with ⟨hr, rfl, rfl, rfl⟩ | ⟨hr, rfl, rfl, rfl⟩
  all_goals
    go_enter Tryd.func8, Tryd.ntmps8
    go_wp2_with fail
    refine (h1 _).mono ?_
    rintro e w1 ⟨rfl, hb1⟩
    go_wp2_with fail
    refine (h2 _).mono ?_
    rintro e w2 ⟨rfl, hb2⟩
    have hb := hb1.then_ hb2
    go_wp2_with fail
    refine (hE _).mono ?_
    rintro e w3 ⟨rfl, hb3⟩
    replace hb := hb.then_ hb3
    clear hb1 hb2 hb3 h1 h2 hE
    go_wp2_with fail
    refine (known_any _).mono ?_
    rintro e w4 ⟨rfl, hb4⟩
    go_wp2_with fail
    go_ret
    exact ⟨rfl, (hb.then_ (below_new0 _ _)).then_ hb4⟩
theorem law_levels (n : Int) (w : World) (_w0 : -9223372036854775808 ≤ n ∧ n ≤ 9223372036854775807) :
    Calls Tryd.prog 8 #[.int .i64 n] w fun e w' => e = .returned (.bool true) ∧ Below w.heap.size w w' := by
  have hB : bits BinOp.and IntKind.i64 n 31 = n % 32 := mask_i64 5 (by decide) n _ (by decide)
  obtain ⟨k, hk⟩ : ∃ k : Nat, n % 32 = k := ⟨(n % 32).toNat, by omega⟩
  have hk31 : k ≤ 31 := by omega
  rw [hk] at hB
  have hE := eval_any (by show (nestT k).length ≤ 1000000; rw [nest_rep]; simp; omega) (nest_eval k hk31)
  have e : (⟨(nestT k).toArray⟩ : ByteArray) = ⟨(List.replicate k 40).toArray⟩ ++ ⟨#[55]⟩ ++ ⟨(List.replicate k 41).toArray⟩ := by
    rw [nest_rep]
    apply ByteArray.ext
    apply Array.toList_inj.1
    simp
  rw [e] at hE
  unfold Ret at hE
  by_cases h20 : k + 1 ≤ 20
  · rw [if_pos h20] at hE
    exact levels_walk n k _ _ w hk31 hB (by show (List.replicate k (40 : UInt8)).length ≤ 31; simpa using hk31) (by show (List.replicate k (41 : UInt8)).length ≤ 31; simpa using hk31) (fun w => rep_any 40 k (by omega) w) (fun w => rep_any 41 k (by omega) w) 7 1 0 (.inr ⟨h20, rfl, rfl, rfl⟩) hE
  · rw [if_neg h20] at hE
    exact levels_walk n k _ _ w hk31 hB (by show (List.replicate k (40 : UInt8)).length ≤ 31; simpa using hk31) (by show (List.replicate k (41 : UInt8)).length ≤ 31; simpa using hk31) (fun w => rep_any 40 k (by omega) w) (fun w => rep_any 41 k (by omega) w) 0 0 17 (.inl ⟨by omega, rfl, rfl, rfl⟩) hE
end Go.Proofs.YtlkfnpmcihfjmaaDoor
