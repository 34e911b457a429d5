/-
  A list of elements, or of blocks, holds at most as many as its texts and they together. No conditions.
-/
import Derived.Test.YthieinfonomeeaaGreatDoorAab

namespace Go.Proofs.YthieinfonomeeaaGreatDoor
open Doc
theorem Doc.Ins.size_blk : ∀ l : Ins, l.size ≤ l.bulk
  | .nil => Nat.le_refl _
  | .cons a t s n h k r => by have := Ins.size_blk k; have := Ins.size_blk r; simp only [Ins.size, Ins.bulk]; omega
theorem Doc.Bls.size_blk : ∀ l : Bls, l.size ≤ l.bulk
  | .nil => Nat.le_refl _
  | .cons a l t i k r => by have := Ins.size_blk i; have := Bls.size_blk k; have := Bls.size_blk r; simp only [Bls.size, Bls.bulk]; omega
end Go.Proofs.YthieinfonomeeaaGreatDoor
