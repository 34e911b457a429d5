/-
  Anchors as plain data. No conditions.
-/
import Derived.Test.YtibmemaciahofaaDoorBase
namespace Go.Proofs.YtibmemaciahofaaDoor.Anc

/-- a byte that stands for itself -/
def keep (n : Nat) : Prop := (97 ≤ n ∧ n ≤ 122) ∨ (65 ≤ n ∧ n ≤ 90) ∨ (48 ≤ n ∧ n ≤ 57) ∨ n = 45 ∨ n = 95 ∨ n = 46 ∨ 127 < n
instance (n : Nat) : Decidable (keep n) := by unfold keep; infer_instance
def hexd (n : Nat) : UInt8 := if n < 10 then UInt8.ofNat (48 + n) else UInt8.ofNat (55 + n)
def byte (c : UInt8) : List UInt8 := if c.toNat = 32 then [95] else if keep c.toNat then [c] else [46, hexd (c.toNat / 16), hexd (c.toNat % 16)]
def bytes : List UInt8 → List UInt8
  | [] => []
  | c :: r => byte c ++ bytes r
def anchor (l : List UInt8) : List UInt8 := if l = [] then [95] else bytes l
theorem bytes_app : ∀ a b : List UInt8, bytes (a ++ b) = bytes a ++ bytes b
  | [], b => rfl
  | c :: r, b => by simp only [List.cons_append, bytes, bytes_app r b, List.append_assoc]
theorem byte_len (c : UInt8) : 1 ≤ (byte c).length ∧ (byte c).length ≤ 3 := by
  unfold byte
  split
  · exact ⟨Nat.le_refl _, by decide⟩
  · split
    · exact ⟨Nat.le_refl _, by simp⟩
    · exact ⟨by simp, Nat.le_refl _⟩
theorem bytes_len : ∀ l : List UInt8, l.length ≤ (bytes l).length ∧ (bytes l).length ≤ 3 * l.length
  | [] => ⟨Nat.le_refl _, Nat.le_refl _⟩
  | c :: r => by
    have h1 := byte_len c
    have h2 := bytes_len r
    simp only [bytes, List.length_append, List.length_cons]
    omega
theorem byte_blank {c : UInt8} (h : c.toNat = 32) : byte c = [95] := by unfold byte; rw [if_pos h]
theorem byte_keep {c : UInt8} (h0 : c.toNat ≠ 32) (h : keep c.toNat) : byte c = [c] := by unfold byte; rw [if_neg h0, if_pos h]
theorem byte_hex {c : UInt8} (h0 : c.toNat ≠ 32) (h : ¬ keep c.toNat) : byte c = [46, hexd (c.toNat / 16), hexd (c.toNat % 16)] := by unfold byte; rw [if_neg h0, if_neg h]
theorem anchor_len (l : List UInt8) : (anchor l).length ≤ 3 * l.length + 1 := by
  unfold anchor
  split
  · simp
  · have := (bytes_len l).2; omega
theorem keep_blank {n : Nat} (h : n = 32) : ¬ keep n := by subst h; decide
end Go.Proofs.YtibmemaciahofaaDoor.Anc
