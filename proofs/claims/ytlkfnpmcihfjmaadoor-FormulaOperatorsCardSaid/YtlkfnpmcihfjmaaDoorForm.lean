/-
  Formulas in plain mathematics: how tokens are read as a tree. No program in sight. No conditions but those typed in each theorem.
-/
import Derived.Test.YtlkfnpmcihfjmaaDoorNumText
namespace Go.Proofs.YtlkfnpmcihfjmaaDoor
namespace Form

/-- a tree: a number's text, an operator with one operand, with two -/
inductive Tree where
  | num (t : ByteArray)
  | un (op : ByteArray) (a : Tree)
  | bin (op : ByteArray) (a b : Tree)
def Tree.levels : Tree → Nat
  | .num _ => 1
  | .un _ a => 1 + a.levels
  | .bin _ a b => 1 + max a.levels b.levels
theorem max_sum {a b : Nat} (ha : 1 ≤ a) (hb : 1 ≤ b) : max a b + 1 ≤ a + b := by
  have := Nat.max_le.2 (show a ≤ a + b - 1 ∧ b ≤ a + b - 1 by omega)
  omega
theorem levels_pos (t : Tree) : 1 ≤ t.levels := by cases t <;> simp [Tree.levels] <;> omega

def ops : Nat → List ByteArray
  | 0 => [⟨#[111, 114]⟩]
  | 1 => [⟨#[97, 110, 100]⟩]
  | 3 => [⟨#[43]⟩, ⟨#[45]⟩]
  | 4 => [⟨#[42]⟩, ⟨#[47]⟩, ⟨#[109, 111, 100]⟩]
  | 5 => [⟨#[114, 111, 117, 110, 100]⟩]
  | _ => []
def cmpOps : List ByteArray := [⟨#[61]⟩, ⟨#[60, 62]⟩, ⟨#[60]⟩, ⟨#[62]⟩, ⟨#[60, 61]⟩, ⟨#[62, 61]⟩]
def unOps : List ByteArray := [⟨#[45]⟩, ⟨#[43]⟩, ⟨#[110, 111, 116]⟩, ⟨#[102, 108, 111, 111, 114]⟩]
def hat : List ByteArray := [⟨#[94]⟩]
def opn : List ByteArray := [⟨#[40]⟩]
def cls : List ByteArray := [⟨#[41]⟩]
/-- a text is one of a list -/
def mem (t : ByteArray) (l : List ByteArray) : Bool := l.any fun o => decide (o = t)
theorem mem_iff {t : ByteArray} {l : List ByteArray} : mem t l = true ↔ t ∈ l := by simp [mem]
/-- the next token, if it is one of a list, and the tokens behind it -/
def take (l : List ByteArray) : List ByteArray → Option (ByteArray × List ByteArray)
  | [] => none
  | t :: r => if mem t l = true then some (t, r) else none
/-- a text begins with a digit -/
def dig1 (t : ByteArray) : Bool := match t.data.toList with
  | [] => false
  | c :: _ => Num.isD c

inductive Job where
  | lv (n : Nat)
  | loop (n : Nat) (a : Tree)
structure Res where
  T : Tree
  rest : List ByteArray
  bad : Bool
/-- a primary that is no number -/
def prim (ts : List ByteArray) (b : Bool) : Option (List ByteArray) := if b = true then none else (take opn ts).map Prod.snd
def close (x : Res) : Res :=
  if x.bad = true then ⟨.un ⟨#[40]⟩ x.T, x.rest, true⟩ else
  match take cls x.rest with
  | none => ⟨.un ⟨#[40]⟩ x.T, x.rest, true⟩
  | some (_, r) => ⟨.un ⟨#[40]⟩ x.T, r, false⟩
/-- the reading, by so many steps: level n of the grammar (0 or, 1 and, 2 comparison, 3 sum, 4 term, 5 rounded, 6 unary, 7 power, 8 primary), or the operands behind one that was read -/
def P : Nat → Job → List ByteArray → Bool → Option Res
  | 0, _, _, _ => none
  | f + 1, .loop n a, ts, b =>
    match take (ops n) ts with
    | none => some ⟨a, ts, b⟩
    | some (op, r) =>
      if b = true then some ⟨a, r, true⟩ else
      match P f (.lv (n + 1)) r b with
      | none => none
      | some s => P f (.loop n (.bin op a s.T)) s.rest s.bad
  | f + 1, .lv n, ts, b =>
    if n = 2 then
      match P f (.lv 3) ts b with
      | none => none
      | some x =>
        match take cmpOps x.rest with
        | none => some x
        | some (op, r) =>
          match P f (.lv 3) r x.bad with
          | none => none
          | some y => some ⟨.bin op x.T y.T, y.rest, y.bad⟩
    else if n = 6 then
      match take unOps ts with
      | none => P f (.lv 7) ts b
      | some (op, r) =>
        match P f (.lv 6) r b with
        | none => none
        | some x => some ⟨.un op x.T, x.rest, x.bad⟩
    else if n = 7 then
      match P f (.lv 8) ts b with
      | none => none
      | some x =>
        match take hat x.rest with
        | none => some x
        | some (_, r) =>
          match P f (.lv 6) r x.bad with
          | none => none
          | some y => some ⟨.bin ⟨#[94]⟩ x.T y.T, y.rest, y.bad⟩
    else if n = 8 then
      if (ts.head?.map dig1).getD false = true then some ⟨.num (ts.headD ⟨#[]⟩), ts.tail, b⟩
      else
        match prim ts b with
        | none => some ⟨.num ⟨#[]⟩, ts, true⟩
        | some r =>
          match P f (.lv 0) r false with
          | none => none
          | some x => some (close x)
    else
      match P f (.lv (n + 1)) ts b with
      | none => none
      | some x => P f (.loop n x.T) x.rest x.bad

theorem P_mono (f : Nat) : ∀ (j : Job) (ts : List ByteArray) (b : Bool) (r : Res), P f j ts b = some r → P (f + 1) j ts b = some r := by
  induction f with
  | zero => intro j ts b r h; simp [P] at h
  | succ f ih =>
    intro j ts b r h
    cases j with
    | loop n a =>
      rw [P] at h ⊢
      split at h
      · exact h
      · split at h
        · rename_i h1; rw [if_pos h1]; exact h
        · rename_i h1; rw [if_neg h1]
          split at h
          · cases h
          · rename_i s hs
            rw [ih _ _ _ _ hs]
            exact ih _ _ _ _ h
    | lv n =>
      rw [P] at h ⊢
      split at h
      · rename_i hn; rw [if_pos hn]
        split at h
        · cases h
        · rename_i x hx
          rw [ih _ _ _ _ hx]
          simp only
          split at h
          · exact h
          · split at h
            · cases h
            · rename_i y hy
              rw [ih _ _ _ _ hy]
              exact h
      · rename_i hn; rw [if_neg hn]
        split at h
        · rename_i hn; rw [if_pos hn]
          split at h
          · exact ih _ _ _ _ h
          · split at h
            · cases h
            · rename_i y hy
              rw [ih _ _ _ _ hy]
              exact h
        · rename_i hn; rw [if_neg hn]
          split at h
          · rename_i hn; rw [if_pos hn]
            split at h
            · cases h
            · rename_i x hx
              rw [ih _ _ _ _ hx]
              simp only
              split at h
              · exact h
              · split at h
                · cases h
                · rename_i y hy
                  rw [ih _ _ _ _ hy]
                  exact h
          · rename_i hn; rw [if_neg hn]
            split at h
            · rename_i hn; rw [if_pos hn]
              split at h
              · rename_i hd; rw [if_pos hd]; exact h
              · rename_i hd; rw [if_neg hd]
                split at h
                · exact h
                · split at h
                  · cases h
                  · rename_i y hy
                    rw [ih _ _ _ _ hy]
                    exact h
            · rename_i hn; rw [if_neg hn]
              split at h
              · cases h
              · rename_i x hx
                rw [ih _ _ _ _ hx]
                exact ih _ _ _ _ h
theorem P_le {f g : Nat} (hfg : f ≤ g) {j : Job} {ts : List ByteArray} {b : Bool} {r : Res} (h : P f j ts b = some r) : P g j ts b = some r := by
  induction hfg with
  | refl => exact h
  | step _ ih => exact P_mono _ _ _ _ _ ih
theorem P_one {f g : Nat} {j : Job} {ts : List ByteArray} {b : Bool} {r s : Res} (h : P f j ts b = some r) (k : P g j ts b = some s) : r = s := by
  have h1 := P_le (Nat.le_max_left f g) h
  have h2 := P_le (Nat.le_max_right f g) k
  rw [h1] at h2
  exact Option.some.inj h2
theorem take_len {l ts : List ByteArray} {op : ByteArray} {r : List ByteArray} (h : take l ts = some (op, r)) : r.length + 1 = ts.length ∧ op ∈ l ∧ ts = op :: r := by
  cases ts with
  | nil => simp [take] at h
  | cons t u =>
    by_cases hm : mem t l = true
    · rw [take, if_pos hm] at h
      simp only [Option.some.injEq, Prod.mk.injEq] at h
      obtain ⟨rfl, rfl⟩ := h
      exact ⟨rfl, mem_iff.1 hm, rfl⟩
    · rw [take, if_neg hm] at h
      cases h
theorem close_rest (x : Res) : (close x).rest.length ≤ x.rest.length := by
  unfold close
  split
  · exact Nat.le_refl _
  · split
    · exact Nat.le_refl _
    · rename_i h; have := (take_len h).1; simp only; omega
/-- what is left is no longer than what was there -/
theorem P_len (f : Nat) : ∀ (j : Job) (ts : List ByteArray) (b : Bool) (r : Res), P f j ts b = some r → r.rest.length ≤ ts.length := by
  induction f with
  | zero => intro j ts b r h; simp [P] at h
  | succ f ih =>
    intro j ts b r h
    cases j with
    | loop n a =>
      rw [P] at h
      split at h
      · simp only [Option.some.injEq] at h; subst h; exact Nat.le_refl _
      · rename_i op u ht
        have hl := (take_len ht).1
        split at h
        · simp only [Option.some.injEq] at h; subst h; simp only; omega
        · split at h
          · cases h
          · rename_i s hs
            have h1 := ih _ _ _ _ hs
            have h2 := ih _ _ _ _ h
            omega
    | lv n =>
      rw [P] at h
      split at h
      · split at h
        · cases h
        · rename_i x hx
          have h1 := ih _ _ _ _ hx
          split at h
          · simp only [Option.some.injEq] at h; subst h; exact h1
          · rename_i op u ht
            have hl := (take_len ht).1
            split at h
            · cases h
            · rename_i y hy
              have h2 := ih _ _ _ _ hy
              simp only [Option.some.injEq] at h; subst h; simp only; omega
      · split at h
        · split at h
          · exact ih _ _ _ _ h
          · rename_i op u ht
            have hl := (take_len ht).1
            split at h
            · cases h
            · rename_i y hy
              have h2 := ih _ _ _ _ hy
              simp only [Option.some.injEq] at h; subst h; simp only; omega
        · split at h
          · split at h
            · cases h
            · rename_i x hx
              have h1 := ih _ _ _ _ hx
              split at h
              · simp only [Option.some.injEq] at h; subst h; exact h1
              · rename_i op u ht
                have hl := (take_len ht).1
                split at h
                · cases h
                · rename_i y hy
                  have h2 := ih _ _ _ _ hy
                  simp only [Option.some.injEq] at h; subst h; simp only; omega
          · split at h
            · split at h
              · simp only [Option.some.injEq] at h; subst h; simp
              · split at h
                · simp only [Option.some.injEq] at h; subst h; exact Nat.le_refl _
                · rename_i u hp
                  have hl : u.length ≤ ts.length := by
                    unfold prim at hp
                    split at hp
                    · cases hp
                    · cases ht : take opn ts with
                      | none => rw [ht] at hp; cases hp
                      | some x =>
                        obtain ⟨op, v⟩ := x
                        have := (take_len ht).1
                        rw [ht] at hp
                        simp only [Option.map_some, Option.some.injEq] at hp
                        subst hp
                        omega
                  split at h
                  · cases h
                  · rename_i y hy
                    have h2 := ih _ _ _ _ hy
                    have h3 := close_rest y
                    simp only [Option.some.injEq] at h; subst h; omega
            · split at h
              · cases h
              · rename_i x hx
                have h1 := ih _ _ _ _ hx
                have h2 := ih _ _ _ _ h
                omega
/-- a tree has no more levels than tokens, and one -/
def jobL : Job → Nat
  | .lv _ => 1
  | .loop _ a => a.levels
theorem P_levels (f : Nat) : ∀ (j : Job) (ts : List ByteArray) (b : Bool) (r : Res), P f j ts b = some r → r.T.levels + r.rest.length ≤ ts.length + jobL j := by
  induction f with
  | zero => intro j ts b r h; simp [P] at h
  | succ f ih =>
    intro j ts b r h
    cases j with
    | loop n a =>
      rw [P] at h
      have ha := levels_pos a
      split at h
      · simp only [Option.some.injEq] at h; subst h; simp only [jobL]; omega
      · rename_i op u ht
        have hl := (take_len ht).1
        split at h
        · simp only [Option.some.injEq] at h; subst h; simp only [jobL]; omega
        · split at h
          · cases h
          · rename_i s hs
            have h1 := ih _ _ _ _ hs
            have h2 := ih _ _ _ _ h
            have hm := max_sum ha (levels_pos s.T)
            simp only [jobL, Tree.levels] at h1 h2 ⊢
            omega
    | lv n =>
      rw [P] at h
      split at h
      · split at h
        · cases h
        · rename_i x hx
          have h1 := ih _ _ _ _ hx
          split at h
          · simp only [Option.some.injEq] at h; subst h; exact h1
          · rename_i op u ht
            have hl := (take_len ht).1
            split at h
            · cases h
            · rename_i y hy
              have h2 := ih _ _ _ _ hy
              have hm := max_sum (levels_pos x.T) (levels_pos y.T)
              simp only [Option.some.injEq] at h; subst h; simp only [jobL, Tree.levels] at h1 h2 ⊢; omega
      · split at h
        · split at h
          · have h1 := ih _ _ _ _ h; simp only [jobL] at h1 ⊢; exact h1
          · rename_i op u ht
            have hl := (take_len ht).1
            split at h
            · cases h
            · rename_i y hy
              have h2 := ih _ _ _ _ hy
              simp only [Option.some.injEq] at h; subst h; simp only [jobL, Tree.levels] at h2 ⊢; omega
        · split at h
          · split at h
            · cases h
            · rename_i x hx
              have h1 := ih _ _ _ _ hx
              split at h
              · simp only [Option.some.injEq] at h; subst h; exact h1
              · rename_i op u ht
                have hl := (take_len ht).1
                split at h
                · cases h
                · rename_i y hy
                  have h2 := ih _ _ _ _ hy
                  have hm := max_sum (levels_pos x.T) (levels_pos y.T)
                  simp only [Option.some.injEq] at h; subst h; simp only [jobL, Tree.levels] at h1 h2 ⊢; omega
          · split at h
            · split at h
              · simp only [Option.some.injEq] at h; subst h; simp [Tree.levels, jobL]; omega
              · split at h
                · simp only [Option.some.injEq] at h; subst h; simp only [Tree.levels, jobL]; omega
                · rename_i u hp
                  have hl : u.length + 1 ≤ ts.length := by
                    unfold prim at hp
                    split at hp
                    · cases hp
                    · cases ht : take opn ts with
                      | none => rw [ht] at hp; cases hp
                      | some x =>
                        obtain ⟨op, v⟩ := x
                        have := (take_len ht).1
                        rw [ht] at hp
                        simp only [Option.map_some, Option.some.injEq] at hp
                        subst hp
                        omega
                  split at h
                  · cases h
                  · rename_i y hy
                    have h2 := ih _ _ _ _ hy
                    have h3 := close_rest y
                    have h4 : (close y).T.levels = 1 + y.T.levels := by
                      unfold close
                      split
                      · rfl
                      · split <;> rfl
                    simp only [Option.some.injEq] at h; subst h; simp only [jobL] at h2 ⊢; omega
            · split at h
              · cases h
              · rename_i x hx
                have h1 := ih _ _ _ _ hx
                have h2 := ih _ _ _ _ h
                simp only [jobL] at h1 h2 ⊢
                omega
/-- the reading ends: each level, each list of operands -/
theorem P_total (m : Nat) : (∀ (k : Nat) (ts : List ByteArray) (b : Bool), k ≤ 8 → ts.length ≤ m → ∃ f r, P f (.lv (8 - k)) ts b = some r ∧ r.rest.length ≤ ts.length)
    ∧ (∀ (n : Nat) (a : Tree) (ts : List ByteArray) (b : Bool), n ≤ 5 → ts.length ≤ m → ∃ f r, P f (.loop n a) ts b = some r ∧ r.rest.length ≤ ts.length) := by
  induction m using Nat.strongRecOn with
  | _ m ih =>
    have low : ∀ (k : Nat) (ts : List ByteArray) (b : Bool), k ≤ 8 → ts.length < m → ∃ f r, P f (.lv (8 - k)) ts b = some r ∧ r.rest.length ≤ ts.length := fun k ts b hk h => (ih ts.length h).1 k ts b hk (Nat.le_refl _)
    have lowl : ∀ (n : Nat) (a : Tree) (ts : List ByteArray) (b : Bool), n ≤ 5 → ts.length < m → ∃ f r, P f (.loop n a) ts b = some r ∧ r.rest.length ≤ ts.length := fun n a ts b hn h => (ih ts.length h).2 n a ts b hn (Nat.le_refl _)
    have hloop : ∀ (n : Nat) (a : Tree) (ts : List ByteArray) (b : Bool), n ≤ 5 → ts.length ≤ m → ∃ f r, P f (.loop n a) ts b = some r ∧ r.rest.length ≤ ts.length := by
      intro n a ts b hn h
      cases ht : take (ops n) ts with
      | none => exact ⟨1, ⟨a, ts, b⟩, by simp [P, ht], Nat.le_refl _⟩
      | some x =>
        obtain ⟨op, r⟩ := x
        have hl := (take_len ht).1
        cases b with
        | true => exact ⟨1, ⟨a, r, true⟩, by simp [P, ht], by simp only; omega⟩
        | false =>
          obtain ⟨f1, r1, h1, l1⟩ := low (7 - n) r false (by omega) (by omega)
          rw [show 8 - (7 - n) = n + 1 by omega] at h1
          obtain ⟨f2, r2, h2, l2⟩ := lowl n (.bin op a r1.T) r1.rest r1.bad hn (by omega)
          refine ⟨max f1 f2 + 1, r2, ?_, by omega⟩
          rw [P, ht]
          simp only [Bool.false_eq_true, if_false]
          rw [P_le (Nat.le_max_left f1 f2) h1]
          exact P_le (Nat.le_max_right f1 f2) h2
    refine ⟨?_, hloop⟩
    intro k
    induction k with
    | zero =>
      intro ts b _ h
      by_cases hd : (ts.head?.map dig1).getD false = true
      · exact ⟨1, ⟨.num (ts.headD ⟨#[]⟩), ts.tail, b⟩, by simp [P, hd], by simp⟩
      · cases hp : prim ts b with
        | none => exact ⟨1, ⟨.num ⟨#[]⟩, ts, true⟩, by simp [P, hd, hp], Nat.le_refl _⟩
        | some r =>
          have hl : r.length < ts.length := by
            unfold prim at hp
            split at hp
            · cases hp
            · cases ht : take opn ts with
              | none => rw [ht] at hp; cases hp
              | some x =>
                obtain ⟨op, u⟩ := x
                have := (take_len ht).1
                rw [ht] at hp
                simp only [Option.map_some, Option.some.injEq] at hp
                subst hp
                omega
          obtain ⟨f1, r1, h1, l1⟩ := low 8 r false (by omega) (by omega)
          have hc := close_rest r1
          refine ⟨f1 + 1, close r1, ?_, by omega⟩
          simp only [Nat.sub_self] at h1
          simp [P, hd, hp, h1]
    | succ k ihk =>
      intro ts b hk h
      obtain ⟨f1, r1, h1, l1⟩ := ihk ts b (by omega) h
      by_cases k0 : k = 0
      · subst k0
        cases ht : take hat r1.rest with
        | none => exact ⟨f1 + 1, r1, by simp only [Nat.sub_zero] at h1; simp [P, h1, ht], l1⟩
        | some x =>
          obtain ⟨op, r⟩ := x
          have hl := (take_len ht).1
          obtain ⟨f2, r2, h2, l2⟩ := low 2 r r1.bad (by omega) (by omega)
          refine ⟨max f1 f2 + 1, ⟨.bin ⟨#[94]⟩ r1.T r2.T, r2.rest, r2.bad⟩, ?_, by simp only; omega⟩
          simp only [Nat.sub_zero] at h1
          have e1 := P_le (Nat.le_max_left f1 f2) h1
          have e2 := P_le (Nat.le_max_right f1 f2) h2
          simp only [show 8 - 2 = 6 by omega] at e2
          simp [P, e1, e2, ht]
      · by_cases k1 : k = 1
        · subst k1
          cases ht : take unOps ts with
          | none => exact ⟨f1 + 1, r1, by simp only [show 8 - 1 = 7 by omega] at h1; simp [P, h1, ht], l1⟩
          | some x =>
            obtain ⟨op, r⟩ := x
            have hl := (take_len ht).1
            obtain ⟨f2, r2, h2, l2⟩ := low 2 r b (by omega) (by omega)
            refine ⟨f2 + 1, ⟨.un op r2.T, r2.rest, r2.bad⟩, ?_, by simp only; omega⟩
            simp only [show 8 - 2 = 6 by omega] at h2
            simp [P, h2, ht]
        · by_cases k5 : k = 5
          · subst k5
            cases ht : take cmpOps r1.rest with
            | none => exact ⟨f1 + 1, r1, by simp only [show 8 - 5 = 3 by omega] at h1; simp [P, h1, ht], l1⟩
            | some x =>
              obtain ⟨op, r⟩ := x
              have hl := (take_len ht).1
              obtain ⟨f2, r2, h2, l2⟩ := low 5 r r1.bad (by omega) (by omega)
              refine ⟨max f1 f2 + 1, ⟨.bin op r1.T r2.T, r2.rest, r2.bad⟩, ?_, by simp only; omega⟩
              have e1 := P_le (Nat.le_max_left f1 f2) h1
              have e2 := P_le (Nat.le_max_right f1 f2) h2
              simp only [show 8 - 5 = 3 by omega] at e1 e2
              simp [P, e1, e2, ht]
          · obtain ⟨f2, r2, h2, l2⟩ := hloop (8 - (k + 1)) r1.T r1.rest r1.bad (by omega) (by omega)
            refine ⟨max f1 f2 + 1, r2, ?_, by omega⟩
            have e1 := P_le (Nat.le_max_left f1 f2) h1
            have e2 := P_le (Nat.le_max_right f1 f2) h2
            rw [show 8 - k = 8 - (k + 1) + 1 by omega] at e1
            rw [P, if_neg (by omega), if_neg (by omega), if_neg (by omega), if_neg (by omega), e1]
            exact e2
/-- once bad, for ever bad -/
theorem P_bad (f : Nat) : ∀ (j : Job) (ts : List ByteArray) (r : Res), P f j ts true = some r → r.bad = true := by
  induction f with
  | zero => intro j ts r h; simp [P] at h
  | succ f ih =>
    intro j ts r h
    cases j with
    | loop n a =>
      rw [P] at h
      split at h
      · simp only [Option.some.injEq] at h; subst h; rfl
      · simp only [if_true, Option.some.injEq] at h; subst h; rfl
    | lv n =>
      rw [P] at h
      split at h
      · split at h
        · cases h
        · rename_i x hx
          have hb := ih _ _ _ hx
          rw [hb] at h
          split at h
          · simp only [Option.some.injEq] at h; subst h; exact hb
          · split at h
            · cases h
            · rename_i y hy
              simp only [Option.some.injEq] at h; subst h; exact (ih _ _ _ hy : y.bad = true)
      · split at h
        · split at h
          · exact ih _ _ _ h
          · split at h
            · cases h
            · rename_i y hy
              simp only [Option.some.injEq] at h; subst h; exact (ih _ _ _ hy : y.bad = true)
        · split at h
          · split at h
            · cases h
            · rename_i x hx
              have hb := ih _ _ _ hx
              rw [hb] at h
              split at h
              · simp only [Option.some.injEq] at h; subst h; exact hb
              · split at h
                · cases h
                · rename_i y hy
                  simp only [Option.some.injEq] at h; subst h; exact (ih _ _ _ hy : y.bad = true)
          · split at h
            · split at h
              · simp only [Option.some.injEq] at h; subst h; rfl
              · simp only [prim, if_true, Option.some.injEq] at h; subst h; rfl
            · split at h
              · cases h
              · rename_i x hx
                have hb := ih _ _ _ hx
                rw [hb] at h
                exact ih _ _ _ h
end Form
end Go.Proofs.YtlkfnpmcihfjmaaDoor
