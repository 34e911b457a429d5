/-
  How many blocks and elements there are, as the laws count them. Conditions: those typed in each theorem.
-/
import Derived.Test.YtegcacnmcdkfiaaGreatDoorTf
import Derived.IntWalk

namespace Go.Proofs.YtegcacnmcdkfiaaGreatDoor.Doc
/-- elements, counted up to about 500 -/
def Ins.cnt : Nat → Ins → Nat
  | n, .nil => n
  | n, .cons _ _ _ _ _ k r => if n < 500 then Ins.cnt (n + 1 + Ins.cnt 0 k) r else n
/-- blocks and elements, counted up to about 500 -/
def Bls.cnt : Nat → Bls → Nat
  | n, .nil => n
  | n, .cons _ _ _ i k r => if n < 500 then Bls.cnt (n + 1 + Ins.cnt 0 i + Bls.cnt 0 k) r else n
theorem Ins.cnt_cons (n : Nat) (a : Int) (t : ByteArray) (s : Int) (m h : ByteArray) (k r : Ins) : Ins.cnt n (.cons a t s m h k r) = if n < 500 then Ins.cnt (n + 1 + Ins.cnt 0 k) r else n := by rw [Ins.cnt]
theorem Bls.cnt_cons (n : Nat) (a l : Int) (t : ByteArray) (i : Ins) (k r : Bls) : Bls.cnt n (.cons a l t i k r) = if n < 500 then Bls.cnt (n + 1 + Ins.cnt 0 i + Bls.cnt 0 k) r else n := by rw [Bls.cnt]
theorem Ins.cnt_le : ∀ (l : Ins) (n : Nat), Ins.cnt n l ≤ n + l.size
  | .nil, n => Nat.le_refl _
  | .cons a t s m h k r, n => by
    have h1 := Ins.cnt_le k 0
    unfold Ins.cnt
    split
    · have h2 := Ins.cnt_le r (n + 1 + Ins.cnt 0 k)
      simp only [Ins.size]; omega
    · omega
theorem Bls.cnt_le : ∀ (l : Bls) (n : Nat), Bls.cnt n l ≤ n + l.size
  | .nil, n => Nat.le_refl _
  | .cons a l t i k r, n => by
    have h1 := Bls.cnt_le k 0
    have h3 := Ins.cnt_le i 0
    unfold Bls.cnt
    split
    · have h2 := Bls.cnt_le r (n + 1 + Ins.cnt 0 i + Bls.cnt 0 k)
      simp only [Bls.size]; omega
    · omega
end Go.Proofs.YtegcacnmcdkfiaaGreatDoor.Doc
namespace Go.Proofs.YtegcacnmcdkfiaaGreatDoor
open Go.RowKit Doc
set_option linter.unusedVariables false
attribute [local go_sem ↓] Go.wp_at_zero Go.wp_at_succ

end Go.Proofs.YtegcacnmcdkfiaaGreatDoor
