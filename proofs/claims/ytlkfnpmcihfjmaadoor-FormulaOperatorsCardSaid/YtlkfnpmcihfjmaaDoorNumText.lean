/-
  Digits and numbers in texts, in plain mathematics. No program in sight. No conditions but those typed in each theorem.
-/
import Derived.Lib.AtoiAll
import Derived.Lib.Bytealg
namespace Go.Proofs.YtlkfnpmcihfjmaaDoor
namespace Num

def isD (c : UInt8) : Bool := decide (48 ≤ c.toNat ∧ c.toNat ≤ 57)
theorem isD_iff {c : UInt8} : isD c = true ↔ (48 ≤ c.toNat ∧ c.toNat ≤ 57) := by simp [isD]
/-- how many digits stand at the front -/
def lead : List UInt8 → Nat
  | [] => 0
  | c :: r => if isD c = true then lead r + 1 else 0
/-- what digits spell, behind acc -/
def value (acc : Nat) (l : List UInt8) : Nat := l.foldl (fun a c => a * 10 + (c.toNat - 48)) acc
theorem value_cons (acc : Nat) (c : UInt8) (r : List UInt8) : value acc (c :: r) = value (acc * 10 + (c.toNat - 48)) r := List.foldl_cons
theorem value_nil (acc : Nat) : value acc [] = acc := List.foldl_nil
theorem lead_le : ∀ l : List UInt8, lead l ≤ l.length
  | [] => Nat.le_refl _
  | c :: r => by unfold lead; have := lead_le r; split <;> simp <;> omega
theorem lead_in : ∀ (l : List UInt8) (k : Nat), k < lead l → ∃ h : k < l.length, isD l[k] = true
  | [], k, h => by simp [lead] at h
  | c :: r, k, h => by
    unfold lead at h
    split at h
    · cases k with
      | zero => exact ⟨by simp, by assumption⟩
      | succ k =>
        obtain ⟨h1, h2⟩ := lead_in r k (by omega)
        exact ⟨by simp; omega, by simpa using h2⟩
    · omega
theorem lead_end : ∀ (l : List UInt8) (h : lead l < l.length), isD l[lead l] = false
  | [], h => by simp at h
  | c :: r, h => by
    by_cases hc : isD c = true
    · have e : lead (c :: r) = lead r + 1 := by rw [lead, if_pos hc]
      have := lead_end r (by rw [e] at h; simpa using h)
      simpa [e] using this
    · have e : lead (c :: r) = 0 := by rw [lead, if_neg hc]
      simpa [e] using hc
theorem lead_all {l : List UInt8} (h : ∀ c ∈ l, isD c = true) : lead l = l.length := by
  induction l with
  | nil => rfl
  | cons c r ih => rw [lead, if_pos (h c (by simp)), ih (fun d hd => h d (by simp [hd]))]; rfl
theorem all_lead {l : List UInt8} (h : lead l = l.length) : ∀ c ∈ l, isD c = true := by
  intro c hc
  obtain ⟨k, hk, rfl⟩ := List.mem_iff_getElem.1 hc
  obtain ⟨_, h2⟩ := lead_in l k (by omega)
  exact h2
/-- digits ahead of something that is none -/
theorem lead_app {a b : List UInt8} (ha : ∀ c ∈ a, isD c = true) : lead (a ++ b) = a.length + lead b := by
  induction a with
  | nil => simp
  | cons c r ih =>
    rw [List.cons_append, lead, if_pos (ha c (by simp)), ih (fun d hd => ha d (by simp [hd]))]
    simp; omega
theorem value_app (a b : List UInt8) (acc : Nat) : value acc (a ++ b) = value (value acc a) b := List.foldl_append
theorem value_snoc (l : List UInt8) (c : UInt8) (acc : Nat) : value acc (l ++ [c]) = value acc l * 10 + (c.toNat - 48) := by
  rw [value_app, value_cons, value_nil]
theorem value_acc (b : List UInt8) : ∀ acc, value acc b = acc * 10 ^ b.length + value 0 b := by
  induction b with
  | nil => intro acc; simp [value_nil]
  | cons d r ih =>
    intro acc
    rw [value_cons, ih, value_cons, ih (0 * 10 + (d.toNat - 48)), List.length_cons, Nat.pow_succ, Nat.zero_mul, Nat.zero_add]
    generalize 10 ^ r.length = p
    generalize d.toNat - 48 = x
    rw [Nat.add_mul, Nat.mul_assoc, Nat.mul_comm 10 p]
    omega
theorem value_lt {l : List UInt8} (h : ∀ c ∈ l, isD c = true) : ∀ acc, value acc l < (acc + 1) * 10 ^ l.length := by
  induction l with
  | nil => intro acc; simp [value_nil]
  | cons d r ih =>
    intro acc
    have hd := isD_iff.1 (h d (by simp))
    have := ih (fun c hc => h c (by simp [hc])) (acc * 10 + (d.toNat - 48))
    rw [value_cons, List.length_cons, Nat.pow_succ]
    refine Nat.lt_of_lt_of_le this ?_
    rw [show (acc + 1) * (10 ^ r.length * 10) = ((acc + 1) * 10) * 10 ^ r.length by grind]
    exact Nat.mul_le_mul_right _ (by omega)
/-- what strconv makes of digits -/
theorem parse_digits (l : List UInt8) : ∀ acc, (∀ c ∈ l, isD c = true) → (acc + 1) * 10 ^ l.length ≤ 10000000000000000000 → Lib.parseUint10 acc l = .ok (value acc l) := by
  induction l with
  | nil => intro acc _ _; rfl
  | cons d r ih =>
    intro acc h hb
    have hd := isD_iff.1 (h d (by simp))
    rw [List.length_cons, Nat.pow_succ] at hb
    have h1 : (acc + 1) * 10 ≤ 10000000000000000000 := by
      have : 1 ≤ 10 ^ r.length := Nat.pow_pos (by omega)
      have h2 : (acc + 1) * 10 * 1 ≤ (acc + 1) * 10 * 10 ^ r.length := Nat.mul_le_mul_left _ this
      have h3 : (acc + 1) * (10 ^ r.length * 10) = (acc + 1) * 10 * 10 ^ r.length := by grind
      omega
    rw [Lib.parseUint10, if_pos hd, if_neg (by omega), if_neg (by omega), ih _ (fun c hc => h c (by simp [hc])) ?_]
    · rfl
    · have h3 : (acc + 1) * (10 ^ r.length * 10) = ((acc + 1) * 10) * 10 ^ r.length := by grind
      refine Nat.le_trans (Nat.mul_le_mul_right _ ?_) (h3 ▸ hb)
      omega
theorem atoi_digits (l : List UInt8) (h : ∀ c ∈ l, isD c = true) (hl : l.length ≤ 18) : Lib.atoiAll (48 :: l) = .ok (value 0 l) := by
  have h0 : ∀ c ∈ (48 :: l : List UInt8), isD c = true := by
    intro c hc
    rcases List.mem_cons.1 hc with rfl | hc
    · decide
    · exact h c hc
  have hp : 10 ^ l.length ≤ 10 ^ 18 := Nat.pow_le_pow_right (by omega) hl
  have hv := value_lt h 0
  have e : Lib.parseMag (48 :: l) = .ok (value 0 l) := by
    rw [Lib.parseMag, if_neg (by simp), parse_digits _ 0 h0 (by rw [List.length_cons, Nat.pow_succ]; omega)]
    rfl
  unfold Lib.atoiAll
  simp only [show ¬ ((48 : UInt8).toNat = 43 ∨ (48 : UInt8).toNat = 45) by decide, if_false, e]
  rw [if_neg (by omega), if_neg (by simp)]
  simp
/-- the end of the digits of s from i on -/
def endD (s : ByteArray) (i : Nat) : Nat := i + lead (s.data.toList.drop i)
theorem at_list (s : ByteArray) (k : Nat) (h : k < s.size) : s[k] = s.data.toList[k]'(by simpa using h) := by
  simp [ByteArray.getElem_eq_getElem_data]
theorem endD_in (s : ByteArray) (i k : Nat) (h1 : i ≤ k) (h2 : k < endD s i) : ∃ h : k < s.size, 48 ≤ s[k].toNat ∧ s[k].toNat ≤ 57 := by
  unfold endD at h2
  obtain ⟨h3, h4⟩ := lead_in (s.data.toList.drop i) (k - i) (by omega)
  have hk : k < s.size := by
    rw [List.length_drop] at h3
    have e : s.data.toList.length = s.size := by simp
    omega
  refine ⟨hk, ?_⟩
  rw [at_list s k hk]
  have e : (s.data.toList.drop i)[k - i] = s.data.toList[k]'(by simpa using hk) := by
    rw [List.getElem_drop]
    congr 1
    omega
  rw [e] at h4
  exact isD_iff.1 h4
theorem endD_le (s : ByteArray) (i : Nat) (h : i ≤ s.size) : endD s i ≤ s.size := by
  unfold endD
  have := lead_le (s.data.toList.drop i)
  have e : s.data.toList.length = s.size := by simp
  rw [List.length_drop] at this
  omega
theorem endD_end (s : ByteArray) (i : Nat) (h : endD s i < s.size) : s[endD s i].toNat < 48 ∨ 57 < s[endD s i].toNat := by
  have e : s.data.toList.length = s.size := by simp
  have hl : lead (s.data.toList.drop i) < (s.data.toList.drop i).length := by
    rw [List.length_drop]
    unfold endD at h
    omega
  have := lead_end (s.data.toList.drop i) hl
  rw [List.getElem_drop] at this
  have h2 : s[endD s i] = s.data.toList[i + lead (s.data.toList.drop i)]'(by unfold endD at h; omega) := at_list s _ h
  rw [h2]
  have h3 := mt isD_iff.2 (by rw [this]; simp)
  omega
end Num
end Go.Proofs.YtlkfnpmcihfjmaaDoor
