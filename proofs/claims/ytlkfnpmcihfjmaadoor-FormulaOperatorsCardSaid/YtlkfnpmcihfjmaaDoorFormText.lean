/-
  Formulas in plain mathematics: the tokens of texts that are put together. No program in sight. No conditions but those typed in each theorem.
-/
import Derived.Test.YtlkfnpmcihfjmaaDoorFormRules
namespace Go.Proofs.YtlkfnpmcihfjmaaDoor
set_option linter.unusedVariables false
namespace Form

/-- a text that is put ahead of another adds these tokens -/
def Adds (a : List UInt8) (X : List ByteArray) (ok : List UInt8 → Prop) : Prop := ∀ l, ok l → tokens (a ++ l) = (tokens l).map (X ++ ·)
/-- what does not go on a number -/
def NoDig1 (l : List UInt8) : Prop := ∀ c r, l = c :: r → Num.isD c = false ∧ c ≠ 46
theorem leadR_dig (l : List UInt8) : leadR 48 57 l = Num.lead l := by
  induction l with
  | nil => rfl
  | cons c r ih =>
    unfold leadR Num.lead
    have e : (48 ≤ c ∧ c ≤ 57) ↔ Num.isD c = true := by
      rw [Num.isD_iff, UInt8.le_iff_toNat_le, UInt8.le_iff_toNat_le]
      exact Iff.rfl
    by_cases h : Num.isD c = true
    · rw [if_pos (e.2 h), if_pos h, ih]
    · rw [if_neg (fun h2 => h (e.1 h2)), if_neg h]
theorem lead_stop {a l : List UInt8} (ha : ∀ c ∈ a, Num.isD c = true) (hl : NoDig1 l) : Num.lead (a ++ l) = a.length := by
  rw [Num.lead_app ha]
  cases l with
  | nil => rfl
  | cons c r => rw [Num.lead, if_neg (by rw [(hl c r rfl).1]; decide)]; omega
theorem next_num {a l : List UInt8} (ha : ∀ c ∈ a, Num.isD c = true) (h1 : a ≠ []) (h9 : a.length ≤ 9) (hl : NoDig1 l) : next (a ++ l) = a.length := by
  have hp : 0 < a.length := List.length_pos_iff.2 h1
  unfold next
  simp only [leadR_dig, lead_stop ha hl]
  rw [if_pos hp, if_neg (by omega), if_neg]
  rw [List.drop_left]
  cases l with
  | nil => simp
  | cons c r => simp only [List.head?_cons, Option.some.injEq]; exact (hl c r rfl).2
theorem blank_dig {c : UInt8} (h : Num.isD c = true) : blank c = false := by
  have := Num.isD_iff.1 h
  unfold blank
  simp only [Bool.or_eq_false_iff, beq_eq_false_iff_ne, ne_eq, ← UInt8.toNat_inj]
  have e1 : (32 : UInt8).toNat = 32 := rfl
  have e2 : (9 : UInt8).toNat = 9 := rfl
  have e3 : (10 : UInt8).toNat = 10 := rfl
  omega
theorem adds_num {a : List UInt8} (ha : ∀ c ∈ a, Num.isD c = true) (h1 : a ≠ []) (h9 : a.length ≤ 9) : Adds a [⟨a.toArray⟩] NoDig1 := by
  intro l hl
  have hn := next_num ha h1 h9 hl
  have hp : 0 < a.length := List.length_pos_iff.2 h1
  cases a with
  | nil => exact absurd rfl h1
  | cons c r =>
    have hb := blank_dig (ha c (by simp))
    rw [List.cons_append] at hn ⊢
    rw [tokens_some hb (by rw [hn]; omega), hn, ← List.cons_append, List.drop_left, List.take_left]
    simp
/-- texts of one token that is no number: what follows is free, or must not go on it -/
theorem adds_of {a : List UInt8} {ok : List UInt8 → Prop} (h1 : a ≠ []) (hb : ∀ c, a.head? = some c → blank c = false) (hn : ∀ l, ok l → next (a ++ l) = a.length) : Adds a [⟨a.toArray⟩] ok := by
  intro l hl
  have hn := hn l hl
  have hp : 0 < a.length := List.length_pos_iff.2 h1
  cases a with
  | nil => exact absurd rfl h1
  | cons c r =>
    have hb := hb c rfl
    rw [List.cons_append] at hn ⊢
    rw [tokens_some hb (by rw [hn]; omega), hn, ← List.cons_append, List.drop_left, List.take_left]
    simp
theorem adds_blank {c : UInt8} (h : blank c = true) : Adds [c] [] (fun _ => True) := by
  intro l _
  rw [List.singleton_append, tokens_blank h]
  cases tokens l <;> simp
theorem Adds.app {a b : List UInt8} {X Y : List ByteArray} {p q : List UInt8 → Prop} (h : Adds a X p) (k : Adds b Y q) (hpq : ∀ l, q l → p (b ++ l)) : Adds (a ++ b) (X ++ Y) q := by
  intro l hl
  rw [List.append_assoc, h _ (hpq l hl), k l hl]
  cases tokens l <;> simp
theorem Adds.weak {a : List UInt8} {X : List ByteArray} {p q : List UInt8 → Prop} (h : Adds a X p) (hpq : ∀ l, q l → p l) : Adds a X q := fun l hl => h l (hpq l hl)
theorem Adds.whole {a : List UInt8} {X : List ByteArray} {p : List UInt8 → Prop} (h : Adds a X p) (hp : p []) : tokens a = some X := by
  have := h [] hp
  rw [List.append_nil, tokens_nil] at this
  simpa using this
/-- a sign of one byte, whatever follows -/
theorem adds_one {c : UInt8} (h1 : Num.isD c = false) (h2 : ¬ (97 ≤ c ∧ c ≤ 122)) (h3 : c ≠ 60 ∧ c ≠ 62) (h4 : c ∈ singles) (h5 : blank c = false) : Adds [c] [⟨#[c]⟩] (fun _ => True) := by
  refine adds_of (by simp) (fun d hd => by simp at hd; rw [← hd]; exact h5) (fun l _ => ?_)
  unfold next
  have e1 : leadR 48 57 ([c] ++ l) = 0 := by rw [leadR_dig, List.singleton_append, Num.lead, if_neg (by rw [h1]; decide)]
  have e2 : leadR 97 122 ([c] ++ l) = 0 := by rw [List.singleton_append, leadR, if_neg h2]
  simp only [e1, e2]
  rw [if_neg (by omega), if_neg (by omega), if_neg, if_pos (by simpa using h4)]
  · rfl
  · intro hm
    simp only [pairs, List.mem_cons, List.not_mem_nil, or_false] at hm
    cases l <;> simp at hm <;> grind
/-- "<" or ">" ahead of something that does not go on it -/
theorem adds_lt {c : UInt8} (h3 : c = 60 ∨ c = 62) : Adds [c] [⟨#[c]⟩] (fun l => ∀ d r, l = d :: r → d ≠ 61 ∧ d ≠ 62) := by
  refine adds_of (by simp) (fun d hd => by simp at hd; rw [← hd]; rcases h3 with rfl | rfl <;> decide) (fun l hl => ?_)
  unfold next
  have e1 : leadR 48 57 ([c] ++ l) = 0 := by rw [leadR_dig, List.singleton_append, Num.lead, if_neg (by rcases h3 with rfl | rfl <;> decide)]
  have e2 : leadR 97 122 ([c] ++ l) = 0 := by rw [List.singleton_append, leadR, if_neg (by rcases h3 with rfl | rfl <;> decide)]
  simp only [e1, e2]
  rw [if_neg (by omega), if_neg (by omega), if_neg, if_pos (by rcases h3 with rfl | rfl <;> simp [singles])]
  · rfl
  · intro hm
    simp only [pairs, List.mem_cons, List.not_mem_nil, or_false] at hm
    cases l with
    | nil => simp at hm
    | cons d r =>
      obtain ⟨h1, h2⟩ := hl d r rfl
      simp at hm
      grind
theorem adds_pair {c d : UInt8} (h : [c, d] ∈ pairs) : Adds [c, d] [⟨#[c, d]⟩] (fun _ => True) := by
  have h3 : c = 60 ∨ c = 62 := by
    simp only [pairs, List.mem_cons, List.not_mem_nil, or_false] at h
    grind
  refine adds_of (by simp) (fun e he => by simp at he; rw [← he]; rcases h3 with rfl | rfl <;> decide) (fun l _ => ?_)
  unfold next
  have e1 : leadR 48 57 ([c, d] ++ l) = 0 := by rw [leadR_dig, List.cons_append, Num.lead, if_neg (by rcases h3 with rfl | rfl <;> decide)]
  have e2 : leadR 97 122 ([c, d] ++ l) = 0 := by rw [List.cons_append, leadR, if_neg (by rcases h3 with rfl | rfl <;> decide)]
  simp only [e1, e2]
  rw [if_neg (by omega), if_neg (by omega), if_pos (by simpa using h)]
  rfl
/-- a word ahead of something that is no letter -/
theorem adds_word {a : List UInt8} (h : a ∈ words) : Adds a [⟨a.toArray⟩] (fun l => ∀ d r, l = d :: r → ¬ (97 ≤ d ∧ d ≤ 122)) := by
  have hx : leadR 97 122 a = a.length ∧ leadR 48 57 a = 0 ∧ a ≠ [] ∧ ∀ c, a.head? = some c → blank c = false ∧ Num.isD c = false := by
    simp only [words, List.mem_cons, List.not_mem_nil, or_false] at h
    rcases h with rfl | rfl | rfl | rfl | rfl | rfl <;> exact ⟨by decide, by decide, by decide, by intro c hc; simp at hc; subst hc; decide⟩
  obtain ⟨x1, x2, x3, x4⟩ := hx
  refine adds_of x3 (fun c hc => (x4 c hc).1) (fun l hl => ?_)
  have app : ∀ b : List UInt8, leadR 97 122 b = b.length → leadR 97 122 (b ++ l) = b.length := by
    intro b
    induction b with
    | nil =>
      intro _
      cases l with
      | nil => rfl
      | cons d r => rw [List.nil_append, leadR, if_neg (hl d r rfl)]; rfl
    | cons c r ih =>
      intro hb
      unfold leadR at hb
      split at hb
      · rename_i hc
        rw [List.cons_append, leadR, if_pos hc, ih (by simpa using hb)]
        rfl
      · simp at hb
  have e1 : leadR 48 57 (a ++ l) = 0 := by
    cases a with
    | nil => exact absurd rfl x3
    | cons c r => rw [leadR_dig, List.cons_append, Num.lead, if_neg (by rw [(x4 c rfl).2]; decide)]
  have hp : 0 < a.length := List.length_pos_iff.2 x3
  unfold next
  simp only [e1, app a x1]
  rw [if_neg (by omega), if_pos hp, List.take_left, if_pos h]
end Form
end Go.Proofs.YtlkfnpmcihfjmaaDoor
