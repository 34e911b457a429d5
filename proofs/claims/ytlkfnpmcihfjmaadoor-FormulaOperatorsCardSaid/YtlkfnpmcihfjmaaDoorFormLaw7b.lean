/-
  The law FormulaOperators: it answers true, and writes nothing that was there. No conditions but those typed in each theorem.
-/
import Derived.Test.YtlkfnpmcihfjmaaDoorFormLaw7
namespace Go.Proofs.YtlkfnpmcihfjmaaDoor
open Go.RowKit
set_option linter.unusedVariables false

theorem ops_at {k : Nat} (hk : k < 8) : ∀ h : k < ([.string ⟨#[43]⟩, .string ⟨#[45]⟩, .string ⟨#[42]⟩, .string ⟨#[47]⟩, .string ⟨#[32, 109, 111, 100, 32]⟩, .string ⟨#[61]⟩, .string ⟨#[60]⟩, .string ⟨#[62, 61]⟩] : List Value).length, ([.string ⟨#[43]⟩, .string ⟨#[45]⟩, .string ⟨#[42]⟩, .string ⟨#[47]⟩, .string ⟨#[32, 109, 111, 100, 32]⟩, .string ⟨#[61]⟩, .string ⟨#[60]⟩, .string ⟨#[62, 61]⟩] : List Value)[k]'h = .string ⟨(opS k).toArray⟩ := by
  rcases eight hk with rfl | rfl | rfl | rfl | rfl | rfl | rfl | rfl <;> exact fun _ => rfl
theorem law_oper (a b op : Int) (w : World) (_w0 : -9223372036854775808 ≤ a ∧ a ≤ 9223372036854775807) (_w1 : -9223372036854775808 ≤ b ∧ b ≤ 9223372036854775807) (_w2 : -9223372036854775808 ≤ op ∧ op ≤ 9223372036854775807) :
    Calls Tryd.prog 3 #[.int .i64 a, .int .i64 b, .int .i64 op] w fun e w' => e = .returned (.bool true) ∧ Below w.heap.size w w' := by
  have hB : bits BinOp.and IntKind.i64 op 7 = op % 8 := mask_i64 3 (by decide) op _ (by decide)
  obtain ⟨k, hk⟩ : ∃ k : Nat, op % 8 = k := ⟨(op % 8).toNat, by omega⟩
  have hk8 : k < 8 := by omega
  have D : ∀ n : Int, -9999 ≤ n.tmod 10000 ∧ n.tmod 10000 ≤ 9999 := fun n => by
    have h1 := Int.lt_tmod_of_pos n (b := 10000) (by decide)
    have h2 := Int.tmod_lt_of_pos n (b := 10000) (by decide)
    omega
  have h1 := fun w => digits_any a w _w0
  have h2 := fun w => digits_any b w _w1
  obtain ⟨x1, x2⟩ := D a
  obtain ⟨y1, y2⟩ := D b
  have sx : (dgB (a.tmod 10000)).size ≤ 7 := (opn_dg _ x1 x2).size
  have sy : (dgB (b.tmod 10000)).size ≤ 7 := (opn_dg _ y1 y2).size
  have so : (⟨(opS k).toArray⟩ : ByteArray).size ≤ 10 := by show (opS k).length ≤ 10; rcases eight hk8 with rfl | rfl | rfl | rfl | rfl | rfl | rfl | rfl <;> decide
  have hE := eval_any (by simp only [ByteArray.size_append]; omega) (oper_eval hk8 _ _ x1 x2 y1 y2)
  exact oper_walk a b op _ _ k (dgB (a.tmod 10000)) (dgB (b.tmod 10000)) ⟨(opS k).toArray⟩ _ w rfl rfl hk8 (hB.trans hk) (ops_at hk8) (by omega) (by omega) so (by unfold I64; omega) (by unfold I64; omega) (by unfold I64; omega) rfl h1 h2 hE
end Go.Proofs.YtlkfnpmcihfjmaaDoor
