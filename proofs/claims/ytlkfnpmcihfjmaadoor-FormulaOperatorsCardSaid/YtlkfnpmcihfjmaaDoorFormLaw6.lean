/-
  The law FormulaOperators, walked: it answers true, and writes nothing that was there. No conditions but those typed in each theorem.
-/
import Derived.Test.YtlkfnpmcihfjmaaDoorFormLaw4
import Derived.Test.YtlkfnpmcihfjmaaDoorMask
namespace Go.Proofs.YtlkfnpmcihfjmaaDoor
open Go.RowKit
set_option linter.unusedVariables false

/-- the eight operators of the law: what stands between the numbers, the token, the value -/
def opS : Nat → List UInt8
  | 0 => [43] | 1 => [45] | 2 => [42] | 3 => [47] | 4 => [32, 109, 111, 100, 32] | 5 => [61] | 6 => [60] | _ => [62, 61]
def opK : Nat → ByteArray
  | 0 => ⟨#[43]⟩ | 1 => ⟨#[45]⟩ | 2 => ⟨#[42]⟩ | 3 => ⟨#[47]⟩ | 4 => ⟨#[109, 111, 100]⟩ | 5 => ⟨#[61]⟩ | 6 => ⟨#[60]⟩ | _ => ⟨#[62, 61]⟩
def opR (k : Nat) (a b : Int) : Int × Int × Int := match k with
  | 0 => addV a 1 b 1 | 1 => subV a 1 b 1 | 2 => mulV a 1 b 1 | 3 => divV a 1 b 1 | 4 => modV a 1 b 1
  | 5 => (truthV (cmpN a 1 b 1 == 0), 1, 0) | 6 => (truthV (decide (cmpN a 1 b 1 < 0)), 1, 0) | _ => (truthV (decide (0 ≤ cmpN a 1 b 1)), 1, 0)
theorem eight {k : Nat} (h : k < 8) : k = 0 ∨ k = 1 ∨ k = 2 ∨ k = 3 ∨ k = 4 ∨ k = 5 ∨ k = 6 ∨ k = 7 := by omega
theorem opR_is {k : Nat} (hk : k < 8) (a b : Int) : applyV (opK k) a 1 b 1 = opR k a b := by
  rcases eight hk with rfl | rfl | rfl | rfl | rfl | rfl | rfl | rfl
  · show applyV ⟨#[43]⟩ a 1 b 1 = addV a 1 b 1
    unfold applyV
    rw [if_pos rfl]
  · show applyV ⟨#[45]⟩ a 1 b 1 = subV a 1 b 1
    unfold applyV
    rw [if_neg (by decide), if_pos rfl]
  · show applyV ⟨#[42]⟩ a 1 b 1 = mulV a 1 b 1
    unfold applyV
    rw [if_neg (by decide), if_neg (by decide), if_pos rfl]
  · show applyV ⟨#[47]⟩ a 1 b 1 = divV a 1 b 1
    unfold applyV
    rw [if_neg (by decide), if_neg (by decide), if_neg (by decide), if_pos rfl]
  · show applyV ⟨#[109, 111, 100]⟩ a 1 b 1 = modV a 1 b 1
    unfold applyV
    rw [if_neg (by decide), if_neg (by decide), if_neg (by decide), if_neg (by decide), if_pos rfl]
  · show applyV ⟨#[61]⟩ a 1 b 1 = (truthV (cmpN a 1 b 1 == 0), 1, 0)
    unfold applyV
    rw [if_neg (by decide), if_neg (by decide), if_neg (by decide), if_neg (by decide), if_neg (by decide), if_neg (by decide), if_neg (by decide), if_pos rfl]
  · show applyV ⟨#[60]⟩ a 1 b 1 = (truthV (decide (cmpN a 1 b 1 < 0)), 1, 0)
    unfold applyV
    rw [if_neg (by decide), if_neg (by decide), if_neg (by decide), if_neg (by decide), if_neg (by decide), if_neg (by decide), if_neg (by decide), if_neg (by decide), if_neg (by decide), if_pos rfl]
  · show applyV ⟨#[62, 61]⟩ a 1 b 1 = (truthV (decide (0 ≤ cmpN a 1 b 1)), 1, 0)
    unfold applyV
    rw [if_neg (by decide), if_neg (by decide), if_neg (by decide), if_neg (by decide), if_neg (by decide), if_neg (by decide), if_neg (by decide), if_neg (by decide), if_neg (by decide), if_neg (by decide), if_neg (by decide), if_neg (by decide), if_pos rfl]
theorem oper_eval {k : Nat} (hk : k < 8) (a b : Int) (a1 : -9999 ≤ a) (a2 : a ≤ 9999) (b1 : -9999 ≤ b) (b2 : b ≤ 9999) : EvalR (dgB a ++ ⟨(opS k).toArray⟩ ++ dgB b) (opR k a b) := by
  have ox := opn_dg a a1 a2
  have oy := opn_dg b b1 b2
  obtain ⟨-, -, -, -, -, -, c0, r0, hb, hc⟩ := dg_all b b1 b2
  have sx := ox.size
  have sy := oy.size
  have bl := Form.adds_blank (c := 32) (by decide)
  -- the text between
  have tx : Form.Adds (opS k ++ dgT b) (opK k :: dgX b) Form.NoDig1 := by
    have one : ∀ {c : UInt8}, Form.Adds [c] [⟨#[c]⟩] (fun _ => True) → Form.Adds ([c] ++ dgT b) (⟨#[c]⟩ :: dgX b) Form.NoDig1 := fun h => h.app oy.text (fun _ _ => trivial)
    rcases eight hk with rfl | rfl | rfl | rfl | rfl | rfl | rfl | rfl
    · exact one (Form.adds_one (by decide) (by decide) (by decide) (by decide) (by decide))
    · exact one (Form.adds_one (by decide) (by decide) (by decide) (by decide) (by decide))
    · exact one (Form.adds_one (by decide) (by decide) (by decide) (by decide) (by decide))
    · exact one (Form.adds_one (by decide) (by decide) (by decide) (by decide) (by decide))
    · exact (mid (a := [109, 111, 100]) (.inl (by decide))).app oy.text (fun _ _ => trivial)
    · exact one (Form.adds_one (by decide) (by decide) (by decide) (by decide) (by decide))
    · refine (Form.adds_lt (c := 60) (.inl rfl)).app oy.text ?_
      intro l hl d r e
      rw [hb, List.cons_append] at e
      cases e
      rcases hc with hc | rfl
      · have := Num.isD_iff.1 hc
        constructor
        · rintro rfl; exact absurd hc (by decide)
        · rintro rfl; exact absurd hc (by decide)
      · decide
    · exact (Form.adds_pair (by decide)).app oy.text (fun _ _ => trivial)
  have t := ox.text.app tx (fun l _ => by
    rcases eight hk with rfl | rfl | rfl | rfl | rfl | rfl | rfl | rfl <;> exact nd_cons (by decide) (by decide))
  have rd : Form.Rd 0 (dgX a ++ opK k :: dgX b) (.bin (opK k) (dgV a) (dgV b)) := by
    rcases eight hk with rfl | rfl | rfl | rfl | rfl | rfl | rfl | rfl
    · exact up3 (rd_sum (a := [43]) (.inl rfl) ox.all.2.2.2.2.1 oy.all.2.2.2.2.1)
    · exact up3 (rd_sum (a := [45]) (.inr rfl) ox.all.2.2.2.2.1 oy.all.2.2.2.2.1)
    · exact up4 (rd_term (a := [42]) (.inl rfl) ox.all.2.2.2.2.2.1 oy.all.2.2.2.2.2.1)
    · exact up4 (rd_term (a := [47]) (.inr (.inr rfl)) ox.all.2.2.2.2.2.1 oy.all.2.2.2.2.2.1)
    · exact up4 (rd_term (a := [109, 111, 100]) (.inr (.inl rfl)) ox.all.2.2.2.2.2.1 oy.all.2.2.2.2.2.1)
    · exact rd_cmp (by decide) (by decide) (by decide) (by decide) (by decide) ox.all.2.2.2.1 oy.all.2.2.2.1
    · exact rd_cmp (by decide) (by decide) (by decide) (by decide) (by decide) ox.all.2.2.2.1 oy.all.2.2.2.1
    · exact rd_cmp (by decide) (by decide) (by decide) (by decide) (by decide) ox.all.2.2.2.1 oy.all.2.2.2.1
  have hop : Form.mem (opK k) (⟨#[]⟩ :: []) = false := by rcases eight hk with rfl | rfl | rfl | rfl | rfl | rfl | rfl | rfl <;> decide
  have lo : (opS k).length ≤ 5 := by rcases eight hk with rfl | rfl | rfl | rfl | rfl | rfl | rfl | rfl <;> decide
  refine eval_of ?_ t rd (Nat.le_trans (bin_levels ox.deep oy.deep) (by omega)) (by simp; omega) (val_bin hop ox.val oy.val (opR_is hk a b))
  apply ByteArray.ext; apply Array.toList_inj.1; simp [dgB]
theorem truthR_true (w : World) : Calls Tryd.prog 17 #[.bool true] w fun e w' => e = .returned (.agg #[.int .i64 1, .int .i64 1]) ∧ Below w.heap.size w w' := by
  go_enter Tryd.func17, Tryd.ntmps17
  go_wp2_with fail
  exact bodyPost_ret (v := .agg #[.int .i64 1, .int .i64 1]) (by simp [results, Tryd.results17, go_sem]) rfl ⟨rfl, below_new0 _ _⟩
theorem truthR_false (w : World) : Calls Tryd.prog 17 #[.bool false] w fun e w' => e = .returned (.agg #[.int .i64 0, .int .i64 1]) ∧ Below w.heap.size w w' := by
  go_enter Tryd.func17, Tryd.ntmps17
  go_wp2_with fail
  exact bodyPost_ret (v := .agg #[.int .i64 0, .int .i64 1]) (by simp [results, Tryd.results17, go_sem]) rfl ⟨rfl, below_new0 _ _⟩
theorem truthR_any (b : Bool) (w : World) : Calls Tryd.prog 17 #[.bool b] w fun e w' => e = .returned (.agg #[.int .i64 (truthV b), .int .i64 1]) ∧ Below w.heap.size w w' := by
  cases b
  · exact truthR_false w
  · exact truthR_true w
end Go.Proofs.YtlkfnpmcihfjmaaDoor
