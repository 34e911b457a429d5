/-
  Digits and numbers in texts, in plain mathematics. No program in sight. No conditions but those typed in each theorem.
  Formulas in plain mathematics: how tokens are read as a tree. No program in sight. No conditions but those typed in each theorem.
  Formulas in plain mathematics: how a text is divided into tokens. No program in sight. No conditions but those typed in each theorem.
  Formulas in plain mathematics: blanks around a text, and parentheses around it. No program in sight. No conditions but those typed in each theorem.
-/
import Derived.Lib.AtoiAll
import Derived.Lib.Bytealg

namespace Go.Proofs.YtlkfnpmcihfjmaaDoor
namespace Num

def isD (c : UInt8) : Bool := decide (48 ≤ c.toNat ∧ c.toNat ≤ 57)
theorem isD_iff {c : UInt8} : isD c = true ↔ (48 ≤ c.toNat ∧ c.toNat ≤ 57) := by simp [isD]
/-- how many digits stand at the front -/
def lead : List UInt8 → Nat
  | [] => 0
  | c :: r => if isD c = true then lead r + 1 else 0
/-- what digits spell, behind acc -/
def value (acc : Nat) (l : List UInt8) : Nat := l.foldl (fun a c => a * 10 + (c.toNat - 48)) acc
theorem value_cons (acc : Nat) (c : UInt8) (r : List UInt8) : value acc (c :: r) = value (acc * 10 + (c.toNat - 48)) r := List.foldl_cons
theorem value_nil (acc : Nat) : value acc [] = acc := List.foldl_nil
theorem lead_le : ∀ l : List UInt8, lead l ≤ l.length
  | [] => Nat.le_refl _
  | c :: r => by unfold lead; have := lead_le r; split <;> simp <;> omega
theorem lead_in : ∀ (l : List UInt8) (k : Nat), k < lead l → ∃ h : k < l.length, isD l[k] = true
  | [], k, h => by simp [lead] at h
  | c :: r, k, h => by
    unfold lead at h
    split at h
    · cases k with
      | zero => exact ⟨by simp, by assumption⟩
      | succ k =>
        obtain ⟨h1, h2⟩ := lead_in r k (by omega)
        exact ⟨by simp; omega, by simpa using h2⟩
    · omega
theorem lead_end : ∀ (l : List UInt8) (h : lead l < l.length), isD l[lead l] = false
  | [], h => by simp at h
  | c :: r, h => by
    by_cases hc : isD c = true
    · have e : lead (c :: r) = lead r + 1 := by rw [lead, if_pos hc]
      have := lead_end r (by rw [e] at h; simpa using h)
      simpa [e] using this
    · have e : lead (c :: r) = 0 := by rw [lead, if_neg hc]
      simpa [e] using hc
theorem lead_all {l : List UInt8} (h : ∀ c ∈ l, isD c = true) : lead l = l.length := by
  induction l with
  | nil => rfl
  | cons c r ih => rw [lead, if_pos (h c (by simp)), ih (fun d hd => h d (by simp [hd]))]; rfl
theorem all_lead {l : List UInt8} (h : lead l = l.length) : ∀ c ∈ l, isD c = true := by
  intro c hc
  obtain ⟨k, hk, rfl⟩ := List.mem_iff_getElem.1 hc
  obtain ⟨_, h2⟩ := lead_in l k (by omega)
  exact h2
/-- digits ahead of something that is none -/
theorem lead_app {a b : List UInt8} (ha : ∀ c ∈ a, isD c = true) : lead (a ++ b) = a.length + lead b := by
  induction a with
  | nil => simp
  | cons c r ih =>
    rw [List.cons_append, lead, if_pos (ha c (by simp)), ih (fun d hd => ha d (by simp [hd]))]
    simp; omega
theorem value_app (a b : List UInt8) (acc : Nat) : value acc (a ++ b) = value (value acc a) b := List.foldl_append
theorem value_snoc (l : List UInt8) (c : UInt8) (acc : Nat) : value acc (l ++ [c]) = value acc l * 10 + (c.toNat - 48) := by
  rw [value_app, value_cons, value_nil]
theorem value_acc (b : List UInt8) : ∀ acc, value acc b = acc * 10 ^ b.length + value 0 b := by
  induction b with
  | nil => intro acc; simp [value_nil]
  | cons d r ih =>
    intro acc
    rw [value_cons, ih, value_cons, ih (0 * 10 + (d.toNat - 48)), List.length_cons, Nat.pow_succ, Nat.zero_mul, Nat.zero_add]
    generalize 10 ^ r.length = p
    generalize d.toNat - 48 = x
    rw [Nat.add_mul, Nat.mul_assoc, Nat.mul_comm 10 p]
    omega
theorem value_lt {l : List UInt8} (h : ∀ c ∈ l, isD c = true) : ∀ acc, value acc l < (acc + 1) * 10 ^ l.length := by
  induction l with
  | nil => intro acc; simp [value_nil]
  | cons d r ih =>
    intro acc
    have hd := isD_iff.1 (h d (by simp))
    have := ih (fun c hc => h c (by simp [hc])) (acc * 10 + (d.toNat - 48))
    rw [value_cons, List.length_cons, Nat.pow_succ]
    refine Nat.lt_of_lt_of_le this ?_
    rw [show (acc + 1) * (10 ^ r.length * 10) = ((acc + 1) * 10) * 10 ^ r.length by grind]
    exact Nat.mul_le_mul_right _ (by omega)
/-- what strconv makes of digits -/
theorem parse_digits (l : List UInt8) : ∀ acc, (∀ c ∈ l, isD c = true) → (acc + 1) * 10 ^ l.length ≤ 10000000000000000000 → Lib.parseUint10 acc l = .ok (value acc l) := by
  induction l with
  | nil => intro acc _ _; rfl
  | cons d r ih =>
    intro acc h hb
    have hd := isD_iff.1 (h d (by simp))
    rw [List.length_cons, Nat.pow_succ] at hb
    have h1 : (acc + 1) * 10 ≤ 10000000000000000000 := by
      have : 1 ≤ 10 ^ r.length := Nat.pow_pos (by omega)
      have h2 : (acc + 1) * 10 * 1 ≤ (acc + 1) * 10 * 10 ^ r.length := Nat.mul_le_mul_left _ this
      have h3 : (acc + 1) * (10 ^ r.length * 10) = (acc + 1) * 10 * 10 ^ r.length := by grind
      omega
    rw [Lib.parseUint10, if_pos hd, if_neg (by omega), if_neg (by omega), ih _ (fun c hc => h c (by simp [hc])) ?_]
    · rfl
    · have h3 : (acc + 1) * (10 ^ r.length * 10) = ((acc + 1) * 10) * 10 ^ r.length := by grind
      refine Nat.le_trans (Nat.mul_le_mul_right _ ?_) (h3 ▸ hb)
      omega
theorem atoi_digits (l : List UInt8) (h : ∀ c ∈ l, isD c = true) (hl : l.length ≤ 18) : Lib.atoiAll (48 :: l) = .ok (value 0 l) := by
  have h0 : ∀ c ∈ (48 :: l : List UInt8), isD c = true := by
    intro c hc
    rcases List.mem_cons.1 hc with rfl | hc
    · decide
    · exact h c hc
  have hp : 10 ^ l.length ≤ 10 ^ 18 := Nat.pow_le_pow_right (by omega) hl
  have hv := value_lt h 0
  have e : Lib.parseMag (48 :: l) = .ok (value 0 l) := by
    rw [Lib.parseMag, if_neg (by simp), parse_digits _ 0 h0 (by rw [List.length_cons, Nat.pow_succ]; omega)]
    rfl
  unfold Lib.atoiAll
  simp only [show ¬ ((48 : UInt8).toNat = 43 ∨ (48 : UInt8).toNat = 45) by decide, if_false, e]
  rw [if_neg (by omega), if_neg (by simp)]
  simp
/-- the end of the digits of s from i on -/
def endD (s : ByteArray) (i : Nat) : Nat := i + lead (s.data.toList.drop i)
theorem at_list (s : ByteArray) (k : Nat) (h : k < s.size) : s[k] = s.data.toList[k]'(by simpa using h) := by
  simp [ByteArray.getElem_eq_getElem_data]
theorem endD_in (s : ByteArray) (i k : Nat) (h1 : i ≤ k) (h2 : k < endD s i) : ∃ h : k < s.size, 48 ≤ s[k].toNat ∧ s[k].toNat ≤ 57 := by
  unfold endD at h2
  obtain ⟨h3, h4⟩ := lead_in (s.data.toList.drop i) (k - i) (by omega)
  have hk : k < s.size := by
    rw [List.length_drop] at h3
    have e : s.data.toList.length = s.size := by simp
    omega
  refine ⟨hk, ?_⟩
  rw [at_list s k hk]
  have e : (s.data.toList.drop i)[k - i] = s.data.toList[k]'(by simpa using hk) := by
    rw [List.getElem_drop]
    congr 1
    omega
  rw [e] at h4
  exact isD_iff.1 h4
theorem endD_le (s : ByteArray) (i : Nat) (h : i ≤ s.size) : endD s i ≤ s.size := by
  unfold endD
  have := lead_le (s.data.toList.drop i)
  have e : s.data.toList.length = s.size := by simp
  rw [List.length_drop] at this
  omega
theorem endD_end (s : ByteArray) (i : Nat) (h : endD s i < s.size) : s[endD s i].toNat < 48 ∨ 57 < s[endD s i].toNat := by
  have e : s.data.toList.length = s.size := by simp
  have hl : lead (s.data.toList.drop i) < (s.data.toList.drop i).length := by
    rw [List.length_drop]
    unfold endD at h
    omega
  have := lead_end (s.data.toList.drop i) hl
  rw [List.getElem_drop] at this
  have h2 : s[endD s i] = s.data.toList[i + lead (s.data.toList.drop i)]'(by unfold endD at h; omega) := at_list s _ h
  rw [h2]
  have h3 := mt isD_iff.2 (by rw [this]; simp)
  omega
end Num
end Go.Proofs.YtlkfnpmcihfjmaaDoor

namespace Go.Proofs.YtlkfnpmcihfjmaaDoor
namespace Form

/-- a tree: a number's text, an operator with one operand, with two -/
inductive Tree where
  | num (t : ByteArray)
  | un (op : ByteArray) (a : Tree)
  | bin (op : ByteArray) (a b : Tree)
def Tree.levels : Tree → Nat
  | .num _ => 1
  | .un _ a => 1 + a.levels
  | .bin _ a b => 1 + max a.levels b.levels
theorem max_sum {a b : Nat} (ha : 1 ≤ a) (hb : 1 ≤ b) : max a b + 1 ≤ a + b := by
  have := Nat.max_le.2 (show a ≤ a + b - 1 ∧ b ≤ a + b - 1 by omega)
  omega
theorem levels_pos (t : Tree) : 1 ≤ t.levels := by cases t <;> simp [Tree.levels] <;> omega

def ops : Nat → List ByteArray
  | 0 => [⟨#[111, 114]⟩]
  | 1 => [⟨#[97, 110, 100]⟩]
  | 3 => [⟨#[43]⟩, ⟨#[45]⟩]
  | 4 => [⟨#[42]⟩, ⟨#[47]⟩, ⟨#[109, 111, 100]⟩]
  | 5 => [⟨#[114, 111, 117, 110, 100]⟩]
  | _ => []
def cmpOps : List ByteArray := [⟨#[61]⟩, ⟨#[60, 62]⟩, ⟨#[60]⟩, ⟨#[62]⟩, ⟨#[60, 61]⟩, ⟨#[62, 61]⟩]
def unOps : List ByteArray := [⟨#[45]⟩, ⟨#[43]⟩, ⟨#[110, 111, 116]⟩, ⟨#[102, 108, 111, 111, 114]⟩]
def hat : List ByteArray := [⟨#[94]⟩]
def opn : List ByteArray := [⟨#[40]⟩]
def cls : List ByteArray := [⟨#[41]⟩]
/-- a text is one of a list -/
def mem (t : ByteArray) (l : List ByteArray) : Bool := l.any fun o => decide (o = t)
theorem mem_iff {t : ByteArray} {l : List ByteArray} : mem t l = true ↔ t ∈ l := by simp [mem]
/-- the next token, if it is one of a list, and the tokens behind it -/
def take (l : List ByteArray) : List ByteArray → Option (ByteArray × List ByteArray)
  | [] => none
  | t :: r => if mem t l = true then some (t, r) else none
/-- a text begins with a digit -/
def dig1 (t : ByteArray) : Bool := match t.data.toList with
  | [] => false
  | c :: _ => Num.isD c

inductive Job where
  | lv (n : Nat)
  | loop (n : Nat) (a : Tree)
structure Res where
  T : Tree
  rest : List ByteArray
  bad : Bool
/-- a primary that is no number -/
def prim (ts : List ByteArray) (b : Bool) : Option (List ByteArray) := if b = true then none else (take opn ts).map Prod.snd
def close (x : Res) : Res :=
  if x.bad = true then ⟨.un ⟨#[40]⟩ x.T, x.rest, true⟩ else
  match take cls x.rest with
  | none => ⟨.un ⟨#[40]⟩ x.T, x.rest, true⟩
  | some (_, r) => ⟨.un ⟨#[40]⟩ x.T, r, false⟩
/-- the reading, by so many steps: level n of the grammar (0 or, 1 and, 2 comparison, 3 sum, 4 term, 5 rounded, 6 unary, 7 power, 8 primary), or the operands behind one that was read -/
def P : Nat → Job → List ByteArray → Bool → Option Res
  | 0, _, _, _ => none
  | f + 1, .loop n a, ts, b =>
    match take (ops n) ts with
    | none => some ⟨a, ts, b⟩
    | some (op, r) =>
      if b = true then some ⟨a, r, true⟩ else
      match P f (.lv (n + 1)) r b with
      | none => none
      | some s => P f (.loop n (.bin op a s.T)) s.rest s.bad
  | f + 1, .lv n, ts, b =>
    if n = 2 then
      match P f (.lv 3) ts b with
      | none => none
      | some x =>
        match take cmpOps x.rest with
        | none => some x
        | some (op, r) =>
          match P f (.lv 3) r x.bad with
          | none => none
          | some y => some ⟨.bin op x.T y.T, y.rest, y.bad⟩
    else if n = 6 then
      match take unOps ts with
      | none => P f (.lv 7) ts b
      | some (op, r) =>
        match P f (.lv 6) r b with
        | none => none
        | some x => some ⟨.un op x.T, x.rest, x.bad⟩
    else if n = 7 then
      match P f (.lv 8) ts b with
      | none => none
      | some x =>
        match take hat x.rest with
        | none => some x
        | some (_, r) =>
          match P f (.lv 6) r x.bad with
          | none => none
          | some y => some ⟨.bin ⟨#[94]⟩ x.T y.T, y.rest, y.bad⟩
    else if n = 8 then
      if (ts.head?.map dig1).getD false = true then some ⟨.num (ts.headD ⟨#[]⟩), ts.tail, b⟩
      else
        match prim ts b with
        | none => some ⟨.num ⟨#[]⟩, ts, true⟩
        | some r =>
          match P f (.lv 0) r false with
          | none => none
          | some x => some (close x)
    else
      match P f (.lv (n + 1)) ts b with
      | none => none
      | some x => P f (.loop n x.T) x.rest x.bad

theorem P_mono (f : Nat) : ∀ (j : Job) (ts : List ByteArray) (b : Bool) (r : Res), P f j ts b = some r → P (f + 1) j ts b = some r := by
  induction f with
  | zero => intro j ts b r h; simp [P] at h
  | succ f ih =>
    intro j ts b r h
    cases j with
    | loop n a =>
      rw [P] at h ⊢
      split at h
      · exact h
      · split at h
        · rename_i h1; rw [if_pos h1]; exact h
        · rename_i h1; rw [if_neg h1]
          split at h
          · cases h
          · rename_i s hs
            rw [ih _ _ _ _ hs]
            exact ih _ _ _ _ h
    | lv n =>
      rw [P] at h ⊢
      split at h
      · rename_i hn; rw [if_pos hn]
        split at h
        · cases h
        · rename_i x hx
          rw [ih _ _ _ _ hx]
          simp only
          split at h
          · exact h
          · split at h
            · cases h
            · rename_i y hy
              rw [ih _ _ _ _ hy]
              exact h
      · rename_i hn; rw [if_neg hn]
        split at h
        · rename_i hn; rw [if_pos hn]
          split at h
          · exact ih _ _ _ _ h
          · split at h
            · cases h
            · rename_i y hy
              rw [ih _ _ _ _ hy]
              exact h
        · rename_i hn; rw [if_neg hn]
          split at h
          · rename_i hn; rw [if_pos hn]
            split at h
            · cases h
            · rename_i x hx
              rw [ih _ _ _ _ hx]
              simp only
              split at h
              · exact h
              · split at h
                · cases h
                · rename_i y hy
                  rw [ih _ _ _ _ hy]
                  exact h
          · rename_i hn; rw [if_neg hn]
            split at h
            · rename_i hn; rw [if_pos hn]
              split at h
              · rename_i hd; rw [if_pos hd]; exact h
              · rename_i hd; rw [if_neg hd]
                split at h
                · exact h
                · split at h
                  · cases h
                  · rename_i y hy
                    rw [ih _ _ _ _ hy]
                    exact h
            · rename_i hn; rw [if_neg hn]
              split at h
              · cases h
              · rename_i x hx
                rw [ih _ _ _ _ hx]
                exact ih _ _ _ _ h
theorem P_le {f g : Nat} (hfg : f ≤ g) {j : Job} {ts : List ByteArray} {b : Bool} {r : Res} (h : P f j ts b = some r) : P g j ts b = some r := by
  induction hfg with
  | refl => exact h
  | step _ ih => exact P_mono _ _ _ _ _ ih
theorem P_one {f g : Nat} {j : Job} {ts : List ByteArray} {b : Bool} {r s : Res} (h : P f j ts b = some r) (k : P g j ts b = some s) : r = s := by
  have h1 := P_le (Nat.le_max_left f g) h
  have h2 := P_le (Nat.le_max_right f g) k
  rw [h1] at h2
  exact Option.some.inj h2
theorem take_len {l ts : List ByteArray} {op : ByteArray} {r : List ByteArray} (h : take l ts = some (op, r)) : r.length + 1 = ts.length ∧ op ∈ l ∧ ts = op :: r := by
  cases ts with
  | nil => simp [take] at h
  | cons t u =>
    by_cases hm : mem t l = true
    · rw [take, if_pos hm] at h
      simp only [Option.some.injEq, Prod.mk.injEq] at h
      obtain ⟨rfl, rfl⟩ := h
      exact ⟨rfl, mem_iff.1 hm, rfl⟩
    · rw [take, if_neg hm] at h
      cases h
theorem close_rest (x : Res) : (close x).rest.length ≤ x.rest.length := by
  unfold close
  split
  · exact Nat.le_refl _
  · split
    · exact Nat.le_refl _
    · rename_i h; have := (take_len h).1; simp only; omega
/-- what is left is no longer than what was there -/
theorem P_len (f : Nat) : ∀ (j : Job) (ts : List ByteArray) (b : Bool) (r : Res), P f j ts b = some r → r.rest.length ≤ ts.length := by
  induction f with
  | zero => intro j ts b r h; simp [P] at h
  | succ f ih =>
    intro j ts b r h
    cases j with
    | loop n a =>
      rw [P] at h
      split at h
      · simp only [Option.some.injEq] at h; subst h; exact Nat.le_refl _
      · rename_i op u ht
        have hl := (take_len ht).1
        split at h
        · simp only [Option.some.injEq] at h; subst h; simp only; omega
        · split at h
          · cases h
          · rename_i s hs
            have h1 := ih _ _ _ _ hs
            have h2 := ih _ _ _ _ h
            omega
    | lv n =>
      rw [P] at h
      split at h
      · split at h
        · cases h
        · rename_i x hx
          have h1 := ih _ _ _ _ hx
          split at h
          · simp only [Option.some.injEq] at h; subst h; exact h1
          · rename_i op u ht
            have hl := (take_len ht).1
            split at h
            · cases h
            · rename_i y hy
              have h2 := ih _ _ _ _ hy
              simp only [Option.some.injEq] at h; subst h; simp only; omega
      · split at h
        · split at h
          · exact ih _ _ _ _ h
          · rename_i op u ht
            have hl := (take_len ht).1
            split at h
            · cases h
            · rename_i y hy
              have h2 := ih _ _ _ _ hy
              simp only [Option.some.injEq] at h; subst h; simp only; omega
        · split at h
          · split at h
            · cases h
            · rename_i x hx
              have h1 := ih _ _ _ _ hx
              split at h
              · simp only [Option.some.injEq] at h; subst h; exact h1
              · rename_i op u ht
                have hl := (take_len ht).1
                split at h
                · cases h
                · rename_i y hy
                  have h2 := ih _ _ _ _ hy
                  simp only [Option.some.injEq] at h; subst h; simp only; omega
          · split at h
            · split at h
              · simp only [Option.some.injEq] at h; subst h; simp
              · split at h
                · simp only [Option.some.injEq] at h; subst h; exact Nat.le_refl _
                · rename_i u hp
                  have hl : u.length ≤ ts.length := by
                    unfold prim at hp
                    split at hp
                    · cases hp
                    · cases ht : take opn ts with
                      | none => rw [ht] at hp; cases hp
                      | some x =>
                        obtain ⟨op, v⟩ := x
                        have := (take_len ht).1
                        rw [ht] at hp
                        simp only [Option.map_some, Option.some.injEq] at hp
                        subst hp
                        omega
                  split at h
                  · cases h
                  · rename_i y hy
                    have h2 := ih _ _ _ _ hy
                    have h3 := close_rest y
                    simp only [Option.some.injEq] at h; subst h; omega
            · split at h
              · cases h
              · rename_i x hx
                have h1 := ih _ _ _ _ hx
                have h2 := ih _ _ _ _ h
                omega
/-- a tree has no more levels than tokens, and one -/
def jobL : Job → Nat
  | .lv _ => 1
  | .loop _ a => a.levels
theorem P_levels (f : Nat) : ∀ (j : Job) (ts : List ByteArray) (b : Bool) (r : Res), P f j ts b = some r → r.T.levels + r.rest.length ≤ ts.length + jobL j := by
  induction f with
  | zero => intro j ts b r h; simp [P] at h
  | succ f ih =>
    intro j ts b r h
    cases j with
    | loop n a =>
      rw [P] at h
      have ha := levels_pos a
      split at h
      · simp only [Option.some.injEq] at h; subst h; simp only [jobL]; omega
      · rename_i op u ht
        have hl := (take_len ht).1
        split at h
        · simp only [Option.some.injEq] at h; subst h; simp only [jobL]; omega
        · split at h
          · cases h
          · rename_i s hs
            have h1 := ih _ _ _ _ hs
            have h2 := ih _ _ _ _ h
            have hm := max_sum ha (levels_pos s.T)
            simp only [jobL, Tree.levels] at h1 h2 ⊢
            omega
    | lv n =>
      rw [P] at h
      split at h
      · split at h
        · cases h
        · rename_i x hx
          have h1 := ih _ _ _ _ hx
          split at h
          · simp only [Option.some.injEq] at h; subst h; exact h1
          · rename_i op u ht
            have hl := (take_len ht).1
            split at h
            · cases h
            · rename_i y hy
              have h2 := ih _ _ _ _ hy
              have hm := max_sum (levels_pos x.T) (levels_pos y.T)
              simp only [Option.some.injEq] at h; subst h; simp only [jobL, Tree.levels] at h1 h2 ⊢; omega
      · split at h
        · split at h
          · have h1 := ih _ _ _ _ h; simp only [jobL] at h1 ⊢; exact h1
          · rename_i op u ht
            have hl := (take_len ht).1
            split at h
            · cases h
            · rename_i y hy
              have h2 := ih _ _ _ _ hy
              simp only [Option.some.injEq] at h; subst h; simp only [jobL, Tree.levels] at h2 ⊢; omega
        · split at h
          · split at h
            · cases h
            · rename_i x hx
              have h1 := ih _ _ _ _ hx
              split at h
              · simp only [Option.some.injEq] at h; subst h; exact h1
              · rename_i op u ht
                have hl := (take_len ht).1
                split at h
                · cases h
                · rename_i y hy
                  have h2 := ih _ _ _ _ hy
                  have hm := max_sum (levels_pos x.T) (levels_pos y.T)
                  simp only [Option.some.injEq] at h; subst h; simp only [jobL, Tree.levels] at h1 h2 ⊢; omega
          · split at h
            · split at h
              · simp only [Option.some.injEq] at h; subst h; simp [Tree.levels, jobL]; omega
              · split at h
                · simp only [Option.some.injEq] at h; subst h; simp only [Tree.levels, jobL]; omega
                · rename_i u hp
                  have hl : u.length + 1 ≤ ts.length := by
                    unfold prim at hp
                    split at hp
                    · cases hp
                    · cases ht : take opn ts with
                      | none => rw [ht] at hp; cases hp
                      | some x =>
                        obtain ⟨op, v⟩ := x
                        have := (take_len ht).1
                        rw [ht] at hp
                        simp only [Option.map_some, Option.some.injEq] at hp
                        subst hp
                        omega
                  split at h
                  · cases h
                  · rename_i y hy
                    have h2 := ih _ _ _ _ hy
                    have h3 := close_rest y
                    have h4 : (close y).T.levels = 1 + y.T.levels := by
                      unfold close
                      split
                      · rfl
                      · split <;> rfl
                    simp only [Option.some.injEq] at h; subst h; simp only [jobL] at h2 ⊢; omega
            · split at h
              · cases h
              · rename_i x hx
                have h1 := ih _ _ _ _ hx
                have h2 := ih _ _ _ _ h
                simp only [jobL] at h1 h2 ⊢
                omega
/-- the reading ends: each level, each list of operands -/
theorem P_total (m : Nat) : (∀ (k : Nat) (ts : List ByteArray) (b : Bool), k ≤ 8 → ts.length ≤ m → ∃ f r, P f (.lv (8 - k)) ts b = some r ∧ r.rest.length ≤ ts.length)
    ∧ (∀ (n : Nat) (a : Tree) (ts : List ByteArray) (b : Bool), n ≤ 5 → ts.length ≤ m → ∃ f r, P f (.loop n a) ts b = some r ∧ r.rest.length ≤ ts.length) := by
  induction m using Nat.strongRecOn with
  | _ m ih =>
    have low : ∀ (k : Nat) (ts : List ByteArray) (b : Bool), k ≤ 8 → ts.length < m → ∃ f r, P f (.lv (8 - k)) ts b = some r ∧ r.rest.length ≤ ts.length := fun k ts b hk h => (ih ts.length h).1 k ts b hk (Nat.le_refl _)
    have lowl : ∀ (n : Nat) (a : Tree) (ts : List ByteArray) (b : Bool), n ≤ 5 → ts.length < m → ∃ f r, P f (.loop n a) ts b = some r ∧ r.rest.length ≤ ts.length := fun n a ts b hn h => (ih ts.length h).2 n a ts b hn (Nat.le_refl _)
    have hloop : ∀ (n : Nat) (a : Tree) (ts : List ByteArray) (b : Bool), n ≤ 5 → ts.length ≤ m → ∃ f r, P f (.loop n a) ts b = some r ∧ r.rest.length ≤ ts.length := by
      intro n a ts b hn h
      cases ht : take (ops n) ts with
      | none => exact ⟨1, ⟨a, ts, b⟩, by simp [P, ht], Nat.le_refl _⟩
      | some x =>
        obtain ⟨op, r⟩ := x
        have hl := (take_len ht).1
        cases b with
        | true => exact ⟨1, ⟨a, r, true⟩, by simp [P, ht], by simp only; omega⟩
        | false =>
          obtain ⟨f1, r1, h1, l1⟩ := low (7 - n) r false (by omega) (by omega)
          rw [show 8 - (7 - n) = n + 1 by omega] at h1
          obtain ⟨f2, r2, h2, l2⟩ := lowl n (.bin op a r1.T) r1.rest r1.bad hn (by omega)
          refine ⟨max f1 f2 + 1, r2, ?_, by omega⟩
          rw [P, ht]
          simp only [Bool.false_eq_true, if_false]
          rw [P_le (Nat.le_max_left f1 f2) h1]
          exact P_le (Nat.le_max_right f1 f2) h2
    refine ⟨?_, hloop⟩
    intro k
    induction k with
    | zero =>
      intro ts b _ h
      by_cases hd : (ts.head?.map dig1).getD false = true
      · exact ⟨1, ⟨.num (ts.headD ⟨#[]⟩), ts.tail, b⟩, by simp [P, hd], by simp⟩
      · cases hp : prim ts b with
        | none => exact ⟨1, ⟨.num ⟨#[]⟩, ts, true⟩, by simp [P, hd, hp], Nat.le_refl _⟩
        | some r =>
          have hl : r.length < ts.length := by
            unfold prim at hp
            split at hp
            · cases hp
            · cases ht : take opn ts with
              | none => rw [ht] at hp; cases hp
              | some x =>
                obtain ⟨op, u⟩ := x
                have := (take_len ht).1
                rw [ht] at hp
                simp only [Option.map_some, Option.some.injEq] at hp
                subst hp
                omega
          obtain ⟨f1, r1, h1, l1⟩ := low 8 r false (by omega) (by omega)
          have hc := close_rest r1
          refine ⟨f1 + 1, close r1, ?_, by omega⟩
          simp only [Nat.sub_self] at h1
          simp [P, hd, hp, h1]
    | succ k ihk =>
      intro ts b hk h
      obtain ⟨f1, r1, h1, l1⟩ := ihk ts b (by omega) h
      by_cases k0 : k = 0
      · subst k0
        cases ht : take hat r1.rest with
        | none => exact ⟨f1 + 1, r1, by simp only [Nat.sub_zero] at h1; simp [P, h1, ht], l1⟩
        | some x =>
          obtain ⟨op, r⟩ := x
          have hl := (take_len ht).1
          obtain ⟨f2, r2, h2, l2⟩ := low 2 r r1.bad (by omega) (by omega)
          refine ⟨max f1 f2 + 1, ⟨.bin ⟨#[94]⟩ r1.T r2.T, r2.rest, r2.bad⟩, ?_, by simp only; omega⟩
          simp only [Nat.sub_zero] at h1
          have e1 := P_le (Nat.le_max_left f1 f2) h1
          have e2 := P_le (Nat.le_max_right f1 f2) h2
          simp only [show 8 - 2 = 6 by omega] at e2
          simp [P, e1, e2, ht]
      · by_cases k1 : k = 1
        · subst k1
          cases ht : take unOps ts with
          | none => exact ⟨f1 + 1, r1, by simp only [show 8 - 1 = 7 by omega] at h1; simp [P, h1, ht], l1⟩
          | some x =>
            obtain ⟨op, r⟩ := x
            have hl := (take_len ht).1
            obtain ⟨f2, r2, h2, l2⟩ := low 2 r b (by omega) (by omega)
            refine ⟨f2 + 1, ⟨.un op r2.T, r2.rest, r2.bad⟩, ?_, by simp only; omega⟩
            simp only [show 8 - 2 = 6 by omega] at h2
            simp [P, h2, ht]
        · by_cases k5 : k = 5
          · subst k5
            cases ht : take cmpOps r1.rest with
            | none => exact ⟨f1 + 1, r1, by simp only [show 8 - 5 = 3 by omega] at h1; simp [P, h1, ht], l1⟩
            | some x =>
              obtain ⟨op, r⟩ := x
              have hl := (take_len ht).1
              obtain ⟨f2, r2, h2, l2⟩ := low 5 r r1.bad (by omega) (by omega)
              refine ⟨max f1 f2 + 1, ⟨.bin op r1.T r2.T, r2.rest, r2.bad⟩, ?_, by simp only; omega⟩
              have e1 := P_le (Nat.le_max_left f1 f2) h1
              have e2 := P_le (Nat.le_max_right f1 f2) h2
              simp only [show 8 - 5 = 3 by omega] at e1 e2
              simp [P, e1, e2, ht]
          · obtain ⟨f2, r2, h2, l2⟩ := hloop (8 - (k + 1)) r1.T r1.rest r1.bad (by omega) (by omega)
            refine ⟨max f1 f2 + 1, r2, ?_, by omega⟩
            have e1 := P_le (Nat.le_max_left f1 f2) h1
            have e2 := P_le (Nat.le_max_right f1 f2) h2
            rw [show 8 - k = 8 - (k + 1) + 1 by omega] at e1
            rw [P, if_neg (by omega), if_neg (by omega), if_neg (by omega), if_neg (by omega), e1]
            exact e2
/-- once bad, for ever bad -/
theorem P_bad (f : Nat) : ∀ (j : Job) (ts : List ByteArray) (r : Res), P f j ts true = some r → r.bad = true := by
  induction f with
  | zero => intro j ts r h; simp [P] at h
  | succ f ih =>
    intro j ts r h
    cases j with
    | loop n a =>
      rw [P] at h
      split at h
      · simp only [Option.some.injEq] at h; subst h; rfl
      · simp only [if_true, Option.some.injEq] at h; subst h; rfl
    | lv n =>
      rw [P] at h
      split at h
      · split at h
        · cases h
        · rename_i x hx
          have hb := ih _ _ _ hx
          rw [hb] at h
          split at h
          · simp only [Option.some.injEq] at h; subst h; exact hb
          · split at h
            · cases h
            · rename_i y hy
              simp only [Option.some.injEq] at h; subst h; exact (ih _ _ _ hy : y.bad = true)
      · split at h
        · split at h
          · exact ih _ _ _ h
          · split at h
            · cases h
            · rename_i y hy
              simp only [Option.some.injEq] at h; subst h; exact (ih _ _ _ hy : y.bad = true)
        · split at h
          · split at h
            · cases h
            · rename_i x hx
              have hb := ih _ _ _ hx
              rw [hb] at h
              split at h
              · simp only [Option.some.injEq] at h; subst h; exact hb
              · split at h
                · cases h
                · rename_i y hy
                  simp only [Option.some.injEq] at h; subst h; exact (ih _ _ _ hy : y.bad = true)
          · split at h
            · split at h
              · simp only [Option.some.injEq] at h; subst h; rfl
              · simp only [prim, if_true, Option.some.injEq] at h; subst h; rfl
            · split at h
              · cases h
              · rename_i x hx
                have hb := ih _ _ _ hx
                rw [hb] at h
                exact ih _ _ _ h
end Form
end Go.Proofs.YtlkfnpmcihfjmaaDoor

namespace Go.Proofs.YtlkfnpmcihfjmaaDoor
namespace Form

/-- how many bytes from lo to hi stand at the front -/
def leadR (lo hi : UInt8) : List UInt8 → Nat
  | [] => 0
  | c :: r => if lo ≤ c ∧ c ≤ hi then leadR lo hi r + 1 else 0
theorem leadR_le (lo hi : UInt8) : ∀ l : List UInt8, leadR lo hi l ≤ l.length
  | [] => Nat.le_refl _
  | c :: r => by unfold leadR; have := leadR_le lo hi r; split <;> simp <;> omega
theorem leadR_in (lo hi : UInt8) : ∀ (l : List UInt8) (k : Nat), k < leadR lo hi l → ∃ h : k < l.length, lo ≤ l[k] ∧ l[k] ≤ hi
  | [], k, h => by simp [leadR] at h
  | c :: r, k, h => by
    unfold leadR at h
    split at h
    · cases k with
      | zero => exact ⟨by simp, by assumption⟩
      | succ k =>
        obtain ⟨h1, h2⟩ := leadR_in lo hi r k (by omega)
        exact ⟨by simp; omega, by simpa using h2⟩
    · omega
theorem leadR_end (lo hi : UInt8) : ∀ (l : List UInt8) (h : leadR lo hi l < l.length), ¬ (lo ≤ l[leadR lo hi l] ∧ l[leadR lo hi l] ≤ hi)
  | [], h => by simp at h
  | c :: r, h => by
    by_cases hc : lo ≤ c ∧ c ≤ hi
    · have e : leadR lo hi (c :: r) = leadR lo hi r + 1 := by rw [leadR, if_pos hc]
      have := leadR_end lo hi r (by rw [e] at h; simpa using h)
      simpa [e] using this
    · have e : leadR lo hi (c :: r) = 0 := by rw [leadR, if_neg hc]
      simpa [e] using hc
def words : List (List UInt8) := [[109, 111, 100], [97, 110, 100], [111, 114], [110, 111, 116], [114, 111, 117, 110, 100], [102, 108, 111, 111, 114]]
def pairs : List (List UInt8) := [[60, 61], [62, 61], [60, 62]]
def singles : List UInt8 := [43, 45, 42, 47, 94, 40, 41, 61, 60, 62]
/-- the length of the token that a text begins with; 0: there is none -/
def next (l : List UInt8) : Nat :=
  let n := leadR 48 57 l
  if 0 < n then
    if 9 < n then 0
    else if (l.drop n).head? = some 46 then
      let m := leadR 48 57 (l.drop (n + 1))
      if 9 < m then 0 else if 0 < m then n + 1 + m else n
    else n
  else
    let k := leadR 97 122 l
    if 0 < k then (if l.take k ∈ words then k else 0)
    else if l.take 2 ∈ pairs then 2
    else if l.head?.any (fun c => decide (c ∈ singles)) = true then 1 else 0
def blank (c : UInt8) : Bool := c == 32 || c == 9 || c == 10
/-- the tokens of a text, by so many steps -/
def scan : Nat → List UInt8 → Option (List ByteArray)
  | _, [] => some []
  | 0, _ :: _ => none
  | k + 1, c :: r =>
    if blank c = true then scan k r
    else if next (c :: r) = 0 then none
    else (scan k ((c :: r).drop (next (c :: r)))).map (⟨((c :: r).take (next (c :: r))).toArray⟩ :: ·)
def tokens (l : List UInt8) : Option (List ByteArray) := scan l.length l
theorem scan_nil (k : Nat) : scan k [] = some [] := by cases k <;> rfl
/-- more steps do not matter -/
theorem scan_more (k : Nat) : ∀ l : List UInt8, l.length ≤ k → scan k l = tokens l := by
  induction k using Nat.strongRecOn with
  | _ k ih =>
    intro l hl
    cases l with
    | nil => rw [scan_nil]; rfl
    | cons c r =>
      cases k with
      | zero => simp at hl
      | succ k =>
        simp only [List.length_cons] at hl
        unfold tokens
        rw [List.length_cons, scan, scan]
        split
        · rw [ih k (by omega) r (by omega)]
          rfl
        · split
          · rfl
          · rename_i h0
            have hd : ((c :: r).drop (next (c :: r))).length ≤ r.length := by rw [List.length_drop, List.length_cons]; omega
            rw [ih k (by omega) _ (by omega)]
            by_cases hr : r.length < k + 1
            · rw [ih r.length (by omega) _ hd]
            · omega
theorem tokens_nil : tokens [] = some [] := rfl
theorem tokens_blank {c : UInt8} {r : List UInt8} (h : blank c = true) : tokens (c :: r) = tokens r := by
  unfold tokens
  rw [List.length_cons, scan, if_pos h]
theorem tokens_none {c : UInt8} {r : List UInt8} (h : blank c = false) (h0 : next (c :: r) = 0) : tokens (c :: r) = none := by
  unfold tokens
  rw [List.length_cons, scan, if_neg (by simp [h]), if_pos h0]
theorem tokens_some {c : UInt8} {r : List UInt8} (h : blank c = false) (h0 : next (c :: r) ≠ 0) :
    tokens (c :: r) = (tokens ((c :: r).drop (next (c :: r)))).map (⟨((c :: r).take (next (c :: r))).toArray⟩ :: ·) := by
  conv => lhs; unfold tokens
  rw [List.length_cons, scan, if_neg (by simp [h]), if_neg h0, scan_more _ _ (by rw [List.length_drop, List.length_cons]; omega)]
theorem next_le (l : List UInt8) : next l ≤ l.length := by
  have h1 := leadR_le 48 57 l
  have h2 := leadR_le 97 122 l
  have h3 := leadR_le 48 57 (l.drop (leadR 48 57 l + 1))
  rw [List.length_drop] at h3
  unfold next
  simp only
  split
  · split
    · omega
    · split
      · rename_i hd
        split
        · omega
        · split <;> omega
      · omega
  · split
    · split <;> omega
    · split
      · rename_i hp
        have : (l.take 2).length = 2 := by
          simp only [pairs, List.mem_cons, List.not_mem_nil, or_false] at hp
          rcases hp with h | h | h <;> rw [h] <;> rfl
        rw [List.length_take] at this
        omega
      · split
        · rename_i hs
          cases l with
          | nil => simp at hs
          | cons c r => simp
        · omega
theorem scan_len (k : Nat) : ∀ (l : List UInt8) (ts : List ByteArray), scan k l = some ts → ts.length ≤ l.length := by
  induction k with
  | zero =>
    intro l ts h
    cases l with
    | nil => simp [scan] at h; subst h; simp
    | cons c r => simp [scan] at h
  | succ k ih =>
    intro l ts h
    cases l with
    | nil => simp [scan] at h; subst h; simp
    | cons c r =>
      rw [scan] at h
      split at h
      · have := ih r ts h; simp; omega
      · split at h
        · cases h
        · rename_i h0
          cases hx : scan k ((c :: r).drop (next (c :: r))) with
          | none => rw [hx] at h; cases h
          | some us =>
            rw [hx] at h
            simp only [Option.map_some, Option.some.injEq] at h
            subst h
            have := ih _ us hx
            rw [List.length_drop, List.length_cons] at this
            simp only [List.length_cons]
            omega
theorem tokens_len {l : List UInt8} {ts : List ByteArray} (h : tokens l = some ts) : ts.length ≤ l.length := scan_len _ l ts h
end Form
end Go.Proofs.YtlkfnpmcihfjmaaDoor

namespace Go.Proofs.YtlkfnpmcihfjmaaDoor
namespace Form

/-- a byte that ends every token before it -/
def Stop (c : UInt8) : Prop := ¬ (48 ≤ c ∧ c ≤ 57) ∧ ¬ (97 ≤ c ∧ c ≤ 122) ∧ c ≠ 46 ∧ c ≠ 61 ∧ c ≠ 62
theorem leadR_stop {lo hi c : UInt8} (hc : ¬ (lo ≤ c ∧ c ≤ hi)) (y : List UInt8) : ∀ x : List UInt8, leadR lo hi (x ++ c :: y) = leadR lo hi x
  | [] => by simp only [List.nil_append, leadR]; rw [if_neg hc]
  | d :: r => by
    rw [List.cons_append, leadR, leadR]
    by_cases hd : lo ≤ d ∧ d ≤ hi
    · rw [if_pos hd, if_pos hd, leadR_stop hc y r]
    · rw [if_neg hd, if_neg hd]
theorem next_stop {c : UInt8} (hc : Stop c) (y : List UInt8) {x : List UInt8} (hx : x ≠ []) : next (x ++ c :: y) = next x := by
  obtain ⟨h1, h2, h3, h4, h5⟩ := hc
  have l1 := leadR_le 48 57 x
  have l2 := leadR_le 97 122 x
  unfold next
  simp only [leadR_stop h1, leadR_stop h2]
  have e1 : (x ++ c :: y).drop (leadR 48 57 x) = x.drop (leadR 48 57 x) ++ c :: y := List.drop_append_of_le_length l1
  have e2 : (x ++ c :: y).take (leadR 97 122 x) = x.take (leadR 97 122 x) := List.take_append_of_le_length l2
  rw [e1, e2]
  have e3 : ((x.drop (leadR 48 57 x) ++ c :: y).head? = some 46) = ((x.drop (leadR 48 57 x)).head? = some 46) := by
    cases hd : x.drop (leadR 48 57 x) with
    | nil => simp only [List.nil_append, List.head?_cons, List.head?_nil, Option.some.injEq, reduceCtorEq, eq_iff_iff, iff_false]; exact h3
    | cons d r => rfl
  have e4 : (x.drop (leadR 48 57 x)).head? = some 46 → leadR 48 57 ((x ++ c :: y).drop (leadR 48 57 x + 1)) = leadR 48 57 (x.drop (leadR 48 57 x + 1)) := by
    intro hh
    have hl : leadR 48 57 x + 1 ≤ x.length := by
      rcases Nat.lt_or_ge (leadR 48 57 x) x.length with h | h
      · exact h
      · rw [List.drop_of_length_le h] at hh; cases hh
    rw [List.drop_append_of_le_length hl, leadR_stop h1]
  have e5 : ((x ++ c :: y).take 2 ∈ pairs) = (x.take 2 ∈ pairs) := by
    match x, hx with
    | [a], _ =>
      simp only [pairs, List.cons_append, List.nil_append, List.take_succ_cons, List.take_zero, List.take_nil, List.mem_cons, List.cons.injEq, and_true, List.not_mem_nil, or_false, reduceCtorEq, and_false, or_self, eq_iff_iff, iff_false]
      rintro (⟨-, h⟩ | ⟨-, h⟩ | ⟨-, h⟩)
      · exact h4 h
      · exact h4 h
      · exact h5 h
    | a :: b :: r, _ => rfl
  have e6 : (x ++ c :: y).head? = x.head? := by
    cases x with
    | nil => exact absurd rfl hx
    | cons d r => rfl
  simp only [e3, e5, e6]
  split
  · split
    · rfl
    · split
      · rename_i hh; rw [e4 hh]
      · rfl
  · rfl
theorem tokens_stop {c : UInt8} (hc : Stop c) (y : List UInt8) : ∀ (k : Nat) (l : List UInt8), l.length ≤ k → tokens (l ++ c :: y) = (tokens l).bind fun ts => (tokens (c :: y)).map (ts ++ ·) := by
  intro k
  induction k using Nat.strongRecOn with
  | _ k ih =>
    intro l hl
    cases l with
    | nil =>
      rw [tokens_nil, List.nil_append]
      cases tokens (c :: y) <;> rfl
    | cons d r =>
      simp only [List.length_cons] at hl
      by_cases hb : blank d = true
      · rw [List.cons_append, tokens_blank hb, tokens_blank hb]
        exact ih r.length (by omega) r (Nat.le_refl _)
      · have hb : blank d = false := by simpa using hb
        have hn : next ((d :: r) ++ c :: y) = next (d :: r) := next_stop hc y (by simp)
        by_cases h0 : next (d :: r) = 0
        · rw [tokens_none hb h0]
          rw [List.cons_append] at hn ⊢
          rw [tokens_none hb (by rw [hn]; exact h0)]
          rfl
        · have hle := next_le (d :: r)
          rw [tokens_some hb h0]
          rw [List.cons_append] at hn ⊢
          rw [tokens_some hb (by rw [hn]; exact h0), hn, ← List.cons_append, List.drop_append_of_le_length hle, List.take_append_of_le_length hle]
          rw [ih ((d :: r).drop (next (d :: r))).length (by rw [List.length_drop, List.length_cons]; omega) _ (Nat.le_refl _)]
          cases tokens ((d :: r).drop (next (d :: r))) with
          | none => rfl
          | some ts => cases tokens (c :: y) <;> rfl
theorem stop_tab : Stop 9 := by unfold Stop; decide
theorem stop_cls : Stop 41 := by unfold Stop; decide
/-- blanks around a text -/
theorem tokens_blanks (l : List UInt8) : tokens ([32, 10] ++ l ++ [9, 32]) = tokens l := by
  show tokens (32 :: 10 :: (l ++ [9, 32])) = _
  rw [tokens_blank (by decide), tokens_blank (by decide), tokens_stop stop_tab [32] _ l (Nat.le_refl _)]
  have : tokens [9, 32] = some [] := by decide
  rw [this]
  cases tokens l <;> simp
theorem next_opn (l : List UInt8) : next (40 :: l) = 1 := by
  have h1 : leadR 48 57 (40 :: l) = 0 := by rw [leadR, if_neg (by decide)]
  have h2 : leadR 97 122 (40 :: l) = 0 := by rw [leadR, if_neg (by decide)]
  unfold next
  simp only [h1, h2, Nat.lt_irrefl, if_false]
  rw [if_neg, if_pos]
  · show decide ((40 : UInt8) ∈ singles) = true
    decide
  · cases l <;> simp [pairs]
/-- parentheses around a text -/
theorem tokens_par (l : List UInt8) : tokens ([40] ++ l ++ [41]) = (tokens l).map fun ts => ⟨#[40]⟩ :: (ts ++ [⟨#[41]⟩]) := by
  show tokens (40 :: (l ++ [41])) = _
  rw [tokens_some (by decide) (by rw [next_opn]; decide), next_opn]
  show (tokens (l ++ [41])).map (⟨#[40]⟩ :: ·) = _
  rw [tokens_stop stop_cls [] _ l (Nat.le_refl _)]
  have : tokens [41] = some [⟨#[41]⟩] := by decide
  rw [this]
  cases tokens l <;> rfl

/-- closing parentheses over opening ones -/
def exc : List ByteArray → Int
  | [] => 0
  | t :: r => (if t = ⟨#[41]⟩ then 1 else if t = ⟨#[40]⟩ then -1 else 0) + exc r
theorem exc_op {l : List ByteArray} {op : ByteArray} {ts r : List ByteArray} (hl : (l.all fun t => decide (¬ t = ⟨#[41]⟩ ∧ ¬ t = ⟨#[40]⟩)) = true) (h : take l ts = some (op, r)) : exc ts = exc r := by
  obtain ⟨-, hm, rfl⟩ := take_len h
  have := List.all_eq_true.1 hl op hm
  simp only [decide_eq_true_eq] at this
  rw [exc, if_neg this.1, if_neg this.2]
  omega
theorem exc_ops (n : Nat) : ((ops n).all fun t => decide (¬ t = ⟨#[41]⟩ ∧ ¬ t = ⟨#[40]⟩)) = true := by
  unfold ops
  split <;> decide
theorem take_end {l : List ByteArray} (hl : (l.all fun t => decide (¬ t = ⟨#[41]⟩ ∧ ¬ t = ⟨#[40]⟩)) = true) : ∀ ts : List ByteArray, take l (ts ++ [⟨#[41]⟩]) = (take l ts).map fun q => (q.1, q.2 ++ [⟨#[41]⟩])
  | [] => by
    have : mem ⟨#[41]⟩ l = false := by
      rw [← Bool.not_eq_true]
      intro h
      have := List.all_eq_true.1 hl _ (mem_iff.1 h)
      simp at this
    simp [take, this]
  | t :: r => by
    simp only [List.cons_append, take]
    split <;> rfl
theorem exc_num {t : ByteArray} {r : List ByteArray} (h : dig1 t = true) : exc (t :: r) = exc r := by
  rw [exc, if_neg (by rintro rfl; exact absurd h (by decide)), if_neg (by rintro rfl; exact absurd h (by decide))]
  omega
theorem all_cmp : (cmpOps.all fun t => decide (¬ t = ⟨#[41]⟩ ∧ ¬ t = ⟨#[40]⟩)) = true := by decide
theorem all_un : (unOps.all fun t => decide (¬ t = ⟨#[41]⟩ ∧ ¬ t = ⟨#[40]⟩)) = true := by decide
theorem all_hat : (hat.all fun t => decide (¬ t = ⟨#[41]⟩ ∧ ¬ t = ⟨#[40]⟩)) = true := by decide
theorem prim_some {ts u : List ByteArray} {b : Bool} (h : prim ts b = some u) : b = false ∧ ts = ⟨#[40]⟩ :: u := by
  unfold prim at h
  split at h
  · cases h
  · rename_i hb
    cases ht : take opn ts with
    | none => rw [ht] at h; cases h
    | some x =>
      obtain ⟨op, v⟩ := x
      obtain ⟨-, hm, e⟩ := take_len ht
      rw [ht] at h
      simp only [Option.map_some, Option.some.injEq] at h
      subst h
      have : op = ⟨#[40]⟩ := by simpa [opn] using hm
      exact ⟨by simpa using hb, by rw [e, this]⟩
theorem good_before {f : Nat} {j : Job} {ts : List ByteArray} {b : Bool} {r : Res} (h : P f j ts b = some r) (hr : r.bad = false) : b = false := by
  cases b with
  | false => rfl
  | true => rw [P_bad f j ts r h] at hr; cases hr
/-- what is read without a fault has as many closing parentheses as opening ones -/
theorem P_exc (f : Nat) : ∀ (j : Job) (ts : List ByteArray) (b : Bool) (r : Res), P f j ts b = some r → r.bad = false → exc ts = exc r.rest := by
  induction f with
  | zero => intro j ts b r h; simp [P] at h
  | succ f ih =>
    intro j ts b r h hr
    cases j with
    | loop n a =>
      rw [P] at h
      split at h
      · simp only [Option.some.injEq] at h; subst h; rfl
      · rename_i op u ht
        have e1 := exc_op (exc_ops n) ht
        split at h
        · simp only [Option.some.injEq] at h; subst h; cases hr
        · split at h
          · cases h
          · rename_i s hs
            rw [e1, ih _ _ _ _ hs (good_before h hr), ih _ _ _ _ h hr]
    | lv n =>
      rw [P] at h
      split at h
      · split at h
        · cases h
        · rename_i x hx
          split at h
          · simp only [Option.some.injEq] at h; subst h; exact ih _ _ _ _ hx hr
          · rename_i op u ht
            have e1 := exc_op all_cmp ht
            split at h
            · cases h
            · rename_i y hy
              simp only [Option.some.injEq] at h; subst h
              rw [ih _ _ _ _ hx (good_before hy hr), e1, ih _ _ _ _ hy hr]
      · split at h
        · split at h
          · exact ih _ _ _ _ h hr
          · rename_i op u ht
            have e1 := exc_op all_un ht
            split at h
            · cases h
            · rename_i y hy
              simp only [Option.some.injEq] at h; subst h
              rw [e1, ih _ _ _ _ hy hr]
        · split at h
          · split at h
            · cases h
            · rename_i x hx
              split at h
              · simp only [Option.some.injEq] at h; subst h; exact ih _ _ _ _ hx hr
              · rename_i op u ht
                have e1 := exc_op all_hat ht
                split at h
                · cases h
                · rename_i y hy
                  simp only [Option.some.injEq] at h; subst h
                  rw [ih _ _ _ _ hx (good_before hy hr), e1, ih _ _ _ _ hy hr]
          · split at h
            · split at h
              · rename_i hd
                simp only [Option.some.injEq] at h; subst h
                cases ts with
                | nil => simp at hd
                | cons t u => exact exc_num (by simpa using hd)
              · split at h
                · simp only [Option.some.injEq] at h; subst h; cases hr
                · rename_i u hp
                  obtain ⟨-, rfl⟩ := prim_some hp
                  split at h
                  · cases h
                  · rename_i y hy
                    simp only [Option.some.injEq] at h; subst h
                    unfold close at hr ⊢
                    split at hr
                    · cases hr
                    · rename_i hyb
                      split at hr
                      · cases hr
                      · rename_i cl v ht
                        obtain ⟨-, hm, e⟩ := take_len ht
                        have hcl : cl = ⟨#[41]⟩ := by simpa [cls] using hm
                        have e1 := ih _ _ _ _ hy (by simpa using hyb)
                        rw [if_neg hyb]
                        show exc (⟨#[40]⟩ :: u) = exc v
                        rw [exc, if_neg (by decide), if_pos rfl, e1, e, hcl, exc, if_pos rfl]
                        omega
            · split at h
              · cases h
              · rename_i x hx
                rw [ih _ _ _ _ hx (good_before h hr), ih _ _ _ _ h hr]
/-- the same tokens with a closing parenthesis behind them -/
def Res.end (r : Res) : Res := ⟨r.T, r.rest ++ [⟨#[41]⟩], r.bad⟩
theorem P_end (f : Nat) : ∀ (j : Job) (ts : List ByteArray) (b : Bool) (r : Res), P f j ts b = some r → (b = true ∨ 0 ≤ exc ts) → P f j (ts ++ [⟨#[41]⟩]) b = some r.end := by
  induction f with
  | zero => intro j ts b r h; simp [P] at h
  | succ f ih =>
    have next : ∀ {j : Job} {ts u : List ByteArray} {b : Bool} {x : Res}, P f j ts b = some x → (b = true ∨ 0 ≤ exc ts) → exc x.rest = exc u → (x.bad = true ∨ 0 ≤ exc u) := by
      intro j ts u b x hx hb hu
      cases hxb : x.bad with
      | true => exact .inl rfl
      | false =>
        have h1 := good_before hx hxb
        have h2 := P_exc f _ _ _ _ hx hxb
        rcases hb with hb | hb
        · rw [h1] at hb; cases hb
        · exact .inr (by omega)
    intro j ts b r h hb
    cases j with
    | loop n a =>
      rw [P] at h ⊢
      rw [take_end (exc_ops n)]
      split at h
      · rename_i ht
        rw [ht]
        simp only [Option.some.injEq] at h; subst h; rfl
      · rename_i op u ht
        have e1 := exc_op (exc_ops n) ht
        rw [ht]
        simp only [Option.map_some]
        split at h
        · rename_i hbt
          rw [if_pos hbt]
          simp only [Option.some.injEq] at h; subst h; rfl
        · rename_i hbt
          rw [if_neg hbt]
          split at h
          · cases h
          · rename_i s hs
            have hb' : b = true ∨ 0 ≤ exc u := by rcases hb with hb | hb; exact .inl hb; exact .inr (by omega)
            rw [ih _ _ _ _ hs hb']
            show P f (.loop n (.bin op a s.T)) (s.rest ++ [⟨#[41]⟩]) s.bad = _
            exact ih _ _ _ _ h (next hs hb' rfl)
    | lv n =>
      rw [P] at h ⊢
      split at h
      · rename_i hn
        rw [if_pos hn]
        split at h
        · cases h
        · rename_i x hx
          rw [ih _ _ _ _ hx hb]
          simp only [Res.end]
          rw [take_end all_cmp]
          split at h
          · rename_i ht
            rw [ht]
            simp only [Option.some.injEq] at h; subst h; rfl
          · rename_i op u ht
            have e1 := exc_op all_cmp ht
            rw [ht]
            simp only [Option.map_some]
            split at h
            · cases h
            · rename_i y hy
              rw [ih _ _ _ _ hy (next hx hb e1)]
              simp only [Option.some.injEq] at h; subst h; rfl
      · rename_i hn
        rw [if_neg hn]
        split at h
        · rename_i hn6
          rw [if_pos hn6, take_end all_un]
          split at h
          · rename_i ht
            rw [ht]
            exact ih _ _ _ _ h hb
          · rename_i op u ht
            have e1 := exc_op all_un ht
            rw [ht]
            simp only [Option.map_some]
            split at h
            · cases h
            · rename_i y hy
              rw [ih _ _ _ _ hy (by rcases hb with hb | hb; exact .inl hb; exact .inr (by omega))]
              simp only [Option.some.injEq] at h; subst h; rfl
        · rename_i hn6
          rw [if_neg hn6]
          split at h
          · rename_i hn7
            rw [if_pos hn7]
            split at h
            · cases h
            · rename_i x hx
              rw [ih _ _ _ _ hx hb]
              simp only [Res.end]
              rw [take_end all_hat]
              split at h
              · rename_i ht
                rw [ht]
                simp only [Option.some.injEq] at h; subst h; rfl
              · rename_i op u ht
                have e1 := exc_op all_hat ht
                rw [ht]
                simp only [Option.map_some]
                split at h
                · cases h
                · rename_i y hy
                  rw [ih _ _ _ _ hy (next hx hb e1)]
                  simp only [Option.some.injEq] at h; subst h; rfl
          · rename_i hn7
            rw [if_neg hn7]
            split at h
            · rename_i hn8
              rw [if_pos hn8]
              split at h
              · rename_i hd
                cases ts with
                | nil => simp at hd
                | cons t u =>
                  rw [if_pos (by simpa using hd)]
                  simp only [Option.some.injEq] at h; subst h; rfl
              · rename_i hd
                rw [if_neg (by cases ts with
                  | nil => simp [dig1, Num.isD]
                  | cons t u => simpa using hd)]
                split at h
                · rename_i hp
                  have : prim (ts ++ [⟨#[41]⟩]) b = none := by
                    unfold prim at hp ⊢
                    split
                    · rfl
                    · rename_i hbt
                      rw [if_neg hbt] at hp
                      cases ts with
                      | nil => decide
                      | cons t u =>
                        simp only [List.cons_append, take] at hp ⊢
                        split at hp
                        · cases hp
                        · rename_i hm; rw [if_neg hm]; rfl
                  rw [this]
                  simp only [Option.some.injEq] at h; subst h; rfl
                · rename_i u hp
                  obtain ⟨rfl, rfl⟩ := prim_some hp
                  have : prim (⟨#[40]⟩ :: u ++ [⟨#[41]⟩]) false = some (u ++ [⟨#[41]⟩]) := by
                    have : mem ⟨#[40]⟩ opn = true := by decide
                    simp [prim, take, this]
                  rw [this]
                  have hu : 1 ≤ exc u := by
                    rcases hb with hb | hb
                    · cases hb
                    · rw [exc, if_neg (by decide), if_pos rfl] at hb; omega
                  split at h
                  · cases h
                  · rename_i y hy
                    simp only
                    rw [ih _ _ _ _ hy (.inr (by omega))]
                    simp only [Option.some.injEq] at h ⊢; subst h
                    unfold close
                    simp only [Res.end]
                    obtain ⟨yT, yr, yb⟩ := y
                    cases yb with
                    | true => rfl
                    | false =>
                      have e1 := P_exc f _ _ _ _ hy rfl
                      simp only [Bool.false_eq_true, if_false] at e1 ⊢
                      cases yr with
                      | nil => simp only [exc] at e1; omega
                      | cons t v =>
                        simp only [List.cons_append, take]
                        by_cases hm : mem t cls = true
                        · simp only [hm, if_true]
                        · simp only [hm, if_false, Bool.false_eq_true, List.cons_append]
            · rename_i hn8
              rw [if_neg hn8]
              split at h
              · cases h
              · rename_i x hx
                rw [ih _ _ _ _ hx hb]
                show P f (.loop n x.T) (x.rest ++ [⟨#[41]⟩]) x.bad = _
                exact ih _ _ _ _ h (next hx hb rfl)
end Form
end Go.Proofs.YtlkfnpmcihfjmaaDoor
