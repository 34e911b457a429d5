/-
  Bytes that are no codes. No conditions but those typed.
-/
import Derived.Test.YtdemfbaaimockaaDoorCalText
namespace Go.Proofs.YtdemfbaaimockaaDoor
namespace Cal
theorem isCode_not {c : UInt8} (h : isCode c = false) : ∀ d, isCode d = true → c ≠ d := fun d hd e => by rw [e, hd] at h; cases h
theorem byte_ne {c d : UInt8} (h : c ≠ d) : ((c.toNat : Int) == (d.toNat : Int)) = false := by
  simp only [beq_eq_false_iff_ne, ne_eq]
  intro e
  exact h (UInt8.toNat_inj.1 (by omega))
end Cal
end Go.Proofs.YtdemfbaaimockaaDoor
