/-
  Formulas in plain mathematics: how a text is divided into tokens. No program in sight. No conditions but those typed in each theorem.
-/
import Derived.Test.YtlkfnpmcihfjmaaDoorForm
namespace Go.Proofs.YtlkfnpmcihfjmaaDoor
namespace Form

/-- how many bytes from lo to hi stand at the front -/
def leadR (lo hi : UInt8) : List UInt8 → Nat
  | [] => 0
  | c :: r => if lo ≤ c ∧ c ≤ hi then leadR lo hi r + 1 else 0
theorem leadR_le (lo hi : UInt8) : ∀ l : List UInt8, leadR lo hi l ≤ l.length
  | [] => Nat.le_refl _
  | c :: r => by unfold leadR; have := leadR_le lo hi r; split <;> simp <;> omega
theorem leadR_in (lo hi : UInt8) : ∀ (l : List UInt8) (k : Nat), k < leadR lo hi l → ∃ h : k < l.length, lo ≤ l[k] ∧ l[k] ≤ hi
  | [], k, h => by simp [leadR] at h
  | c :: r, k, h => by
    unfold leadR at h
    split at h
    · cases k with
      | zero => exact ⟨by simp, by assumption⟩
      | succ k =>
        obtain ⟨h1, h2⟩ := leadR_in lo hi r k (by omega)
        exact ⟨by simp; omega, by simpa using h2⟩
    · omega
theorem leadR_end (lo hi : UInt8) : ∀ (l : List UInt8) (h : leadR lo hi l < l.length), ¬ (lo ≤ l[leadR lo hi l] ∧ l[leadR lo hi l] ≤ hi)
  | [], h => by simp at h
  | c :: r, h => by
    by_cases hc : lo ≤ c ∧ c ≤ hi
    · have e : leadR lo hi (c :: r) = leadR lo hi r + 1 := by rw [leadR, if_pos hc]
      have := leadR_end lo hi r (by rw [e] at h; simpa using h)
      simpa [e] using this
    · have e : leadR lo hi (c :: r) = 0 := by rw [leadR, if_neg hc]
      simpa [e] using hc
def words : List (List UInt8) := [[109, 111, 100], [97, 110, 100], [111, 114], [110, 111, 116], [114, 111, 117, 110, 100], [102, 108, 111, 111, 114]]
def pairs : List (List UInt8) := [[60, 61], [62, 61], [60, 62]]
def singles : List UInt8 := [43, 45, 42, 47, 94, 40, 41, 61, 60, 62]
/-- the length of the token that a text begins with; 0: there is none -/
def next (l : List UInt8) : Nat :=
  let n := leadR 48 57 l
  if 0 < n then
    if 9 < n then 0
    else if (l.drop n).head? = some 46 then
      let m := leadR 48 57 (l.drop (n + 1))
      if 9 < m then 0 else if 0 < m then n + 1 + m else n
    else n
  else
    let k := leadR 97 122 l
    if 0 < k then (if l.take k ∈ words then k else 0)
    else if l.take 2 ∈ pairs then 2
    else if l.head?.any (fun c => decide (c ∈ singles)) = true then 1 else 0
def blank (c : UInt8) : Bool := c == 32 || c == 9 || c == 10
/-- the tokens of a text, by so many steps -/
def scan : Nat → List UInt8 → Option (List ByteArray)
  | _, [] => some []
  | 0, _ :: _ => none
  | k + 1, c :: r =>
    if blank c = true then scan k r
    else if next (c :: r) = 0 then none
    else (scan k ((c :: r).drop (next (c :: r)))).map (⟨((c :: r).take (next (c :: r))).toArray⟩ :: ·)
def tokens (l : List UInt8) : Option (List ByteArray) := scan l.length l
theorem scan_nil (k : Nat) : scan k [] = some [] := by cases k <;> rfl
/-- more steps do not matter -/
theorem scan_more (k : Nat) : ∀ l : List UInt8, l.length ≤ k → scan k l = tokens l := by
  induction k using Nat.strongRecOn with
  | _ k ih =>
    intro l hl
    cases l with
    | nil => rw [scan_nil]; rfl
    | cons c r =>
      cases k with
      | zero => simp at hl
      | succ k =>
        simp only [List.length_cons] at hl
        unfold tokens
        rw [List.length_cons, scan, scan]
        split
        · rw [ih k (by omega) r (by omega)]
          rfl
        · split
          · rfl
          · rename_i h0
            have hd : ((c :: r).drop (next (c :: r))).length ≤ r.length := by rw [List.length_drop, List.length_cons]; omega
            rw [ih k (by omega) _ (by omega)]
            by_cases hr : r.length < k + 1
            · rw [ih r.length (by omega) _ hd]
            · omega
theorem tokens_nil : tokens [] = some [] := rfl
theorem tokens_blank {c : UInt8} {r : List UInt8} (h : blank c = true) : tokens (c :: r) = tokens r := by
  unfold tokens
  rw [List.length_cons, scan, if_pos h]
theorem tokens_none {c : UInt8} {r : List UInt8} (h : blank c = false) (h0 : next (c :: r) = 0) : tokens (c :: r) = none := by
  unfold tokens
  rw [List.length_cons, scan, if_neg (by simp [h]), if_pos h0]
theorem tokens_some {c : UInt8} {r : List UInt8} (h : blank c = false) (h0 : next (c :: r) ≠ 0) :
    tokens (c :: r) = (tokens ((c :: r).drop (next (c :: r)))).map (⟨((c :: r).take (next (c :: r))).toArray⟩ :: ·) := by
  conv => lhs; unfold tokens
  rw [List.length_cons, scan, if_neg (by simp [h]), if_neg h0, scan_more _ _ (by rw [List.length_drop, List.length_cons]; omega)]
theorem next_le (l : List UInt8) : next l ≤ l.length := by
  have h1 := leadR_le 48 57 l
  have h2 := leadR_le 97 122 l
  have h3 := leadR_le 48 57 (l.drop (leadR 48 57 l + 1))
  rw [List.length_drop] at h3
  unfold next
  simp only
  split
  · split
    · omega
    · split
      · rename_i hd
        split
        · omega
        · split <;> omega
      · omega
  · split
    · split <;> omega
    · split
      · rename_i hp
        have : (l.take 2).length = 2 := by
          simp only [pairs, List.mem_cons, List.not_mem_nil, or_false] at hp
          rcases hp with h | h | h <;> rw [h] <;> rfl
        rw [List.length_take] at this
        omega
      · split
        · rename_i hs
          cases l with
          | nil => simp at hs
          | cons c r => simp
        · omega
theorem scan_len (k : Nat) : ∀ (l : List UInt8) (ts : List ByteArray), scan k l = some ts → ts.length ≤ l.length := by
  induction k with
  | zero =>
    intro l ts h
    cases l with
    | nil => simp [scan] at h; subst h; simp
    | cons c r => simp [scan] at h
  | succ k ih =>
    intro l ts h
    cases l with
    | nil => simp [scan] at h; subst h; simp
    | cons c r =>
      rw [scan] at h
      split at h
      · have := ih r ts h; simp; omega
      · split at h
        · cases h
        · rename_i h0
          cases hx : scan k ((c :: r).drop (next (c :: r))) with
          | none => rw [hx] at h; cases h
          | some us =>
            rw [hx] at h
            simp only [Option.map_some, Option.some.injEq] at h
            subst h
            have := ih _ us hx
            rw [List.length_drop, List.length_cons] at this
            simp only [List.length_cons]
            omega
theorem tokens_len {l : List UInt8} {ts : List ByteArray} (h : tokens l = some ts) : ts.length ≤ l.length := scan_len _ l ts h
end Form
end Go.Proofs.YtlkfnpmcihfjmaaDoor
