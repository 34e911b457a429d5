/-
  The claim's own texts, packed. Conditions: those typed in each theorem.
-/
import Derived.Lib.AtoiAll
import Derived.Lib.Bytealg
set_option maxHeartbeats 4000000
set_option maxRecDepth 10000
set_option linter.unusedVariables false
namespace Go.Proofs.YtcklofamaooegaaGreatDoor
namespace Num
def isD (c : UInt8) : Bool := decide (48 ≤ c.toNat ∧ c.toNat ≤ 57)
theorem isD_iff {c : UInt8} : isD c = true ↔ (48 ≤ c.toNat ∧ c.toNat ≤ 57) := by simp [isD]
def lead : List UInt8 → Nat
 | [] => 0
 | c :: r => if isD c = true then lead r + 1 else 0
def value (acc : Nat) (l : List UInt8) : Nat := l.foldl (fun a c => a * 10 + (c.toNat - 48)) acc
theorem value_cons (acc : Nat) (c : UInt8) (r : List UInt8) : value acc (c :: r) = value (acc * 10 + (c.toNat - 48)) r := List.foldl_cons
theorem value_nil (acc : Nat) : value acc [] = acc := List.foldl_nil
theorem lead_le : ∀ l : List UInt8, lead l ≤ l.length
 | [] => Nat.le_refl _
 | c :: r => by unfold lead; have := lead_le r; split <;> simp <;> omega
theorem lead_in : ∀ (l : List UInt8) (k : Nat), k < lead l → ∃ h : k < l.length, isD l[k] = true
 | [], k, h => by simp [lead] at h
 | c :: r, k, h => by
   unfold lead at h
   split at h
   ·cases k with
    | zero => exact ⟨by simp, by assumption⟩
    | succ k =>
      obtain ⟨h1, h2⟩ := lead_in r k (by omega)
      exact ⟨by simp; omega, by simpa using h2⟩
   ·omega
theorem lead_end : ∀ (l : List UInt8) (h : lead l < l.length), isD l[lead l] = false
 | [], h => by simp at h
 | c :: r, h => by
   by_cases hc : isD c = true
   ·have e : lead (c :: r) = lead r + 1 := by rw [lead, if_pos hc]
    have := lead_end r (by rw [e] at h; simpa using h)
    simpa [e] using this
   ·have e : lead (c :: r) = 0 := by rw [lead, if_neg hc]
    simpa [e] using hc
theorem lead_all {l : List UInt8} (h : ∀ c ∈ l, isD c = true) : lead l = l.length := by
 induction l with
 | nil => rfl
 | cons c r ih => rw [lead, if_pos (h c (by simp)), ih (fun d hd => h d (by simp [hd]))]; rfl
theorem all_lead {l : List UInt8} (h : lead l = l.length) : ∀ c ∈ l, isD c = true := by
 intro c hc
 obtain ⟨k, hk, rfl⟩ := List.mem_iff_getElem.1 hc
 obtain ⟨_, h2⟩ := lead_in l k (by omega)
 exact h2
theorem lead_app {a b : List UInt8} (ha : ∀ c ∈ a, isD c = true) : lead (a ++ b) = a.length + lead b := by
 induction a with
 | nil => simp
 | cons c r ih =>
   rw [List.cons_append, lead, if_pos (ha c (by simp)), ih (fun d hd => ha d (by simp [hd]))]
   simp; omega
theorem value_app (a b : List UInt8) (acc : Nat) : value acc (a ++ b) = value (value acc a) b := List.foldl_append
theorem value_snoc (l : List UInt8) (c : UInt8) (acc : Nat) : value acc (l ++ [c]) = value acc l * 10 + (c.toNat - 48) := by
 rw [value_app, value_cons, value_nil]
theorem value_acc (b : List UInt8) : ∀ acc, value acc b = acc * 10 ^ b.length + value 0 b := by
 induction b with
 | nil => intro acc; simp [value_nil]
 | cons d r ih =>
   intro acc
   rw [value_cons, ih, value_cons, ih (0 * 10 + (d.toNat - 48)), List.length_cons, Nat.pow_succ, Nat.zero_mul, Nat.zero_add]
   generalize 10 ^ r.length = p
   generalize d.toNat - 48 = x
   rw [Nat.add_mul, Nat.mul_assoc, Nat.mul_comm 10 p]
   omega
theorem value_lt {l : List UInt8} (h : ∀ c ∈ l, isD c = true) : ∀ acc, value acc l < (acc + 1) * 10 ^ l.length := by
 induction l with
 | nil => intro acc; simp [value_nil]
 | cons d r ih =>
   intro acc
   have hd := isD_iff.1 (h d (by simp))
   have := ih (fun c hc => h c (by simp [hc])) (acc * 10 + (d.toNat - 48))
   rw [value_cons, List.length_cons, Nat.pow_succ]
   refine Nat.lt_of_lt_of_le this ?_
   rw [show (acc + 1) * (10 ^ r.length * 10) = ((acc + 1) * 10) * 10 ^ r.length by grind]
   exact Nat.mul_le_mul_right _ (by omega)
theorem parse_digits (l : List UInt8) : ∀ acc, (∀ c ∈ l, isD c = true) → (acc + 1) * 10 ^ l.length ≤ 10000000000000000000 → Lib.parseUint10 acc l = .ok (value acc l) := by
 induction l with
 | nil => intro acc _ _; rfl
 | cons d r ih =>
   intro acc h hb
   have hd := isD_iff.1 (h d (by simp))
   rw [List.length_cons, Nat.pow_succ] at hb
   have h1 : (acc + 1) * 10 ≤ 10000000000000000000 := by
    have : 1 ≤ 10 ^ r.length := Nat.pow_pos (by omega)
    have h2 : (acc + 1) * 10 * 1 ≤ (acc + 1) * 10 * 10 ^ r.length := Nat.mul_le_mul_left _ this
    have h3 : (acc + 1) * (10 ^ r.length * 10) = (acc + 1) * 10 * 10 ^ r.length := by grind
    omega
   rw [Lib.parseUint10, if_pos hd, if_neg (by omega), if_neg (by omega), ih _ (fun c hc => h c (by simp [hc])) ?_]
   ·rfl
   ·have h3 : (acc + 1) * (10 ^ r.length * 10) = ((acc + 1) * 10) * 10 ^ r.length := by grind
    refine Nat.le_trans (Nat.mul_le_mul_right _ ?_) (h3 ▸ hb)
    omega
theorem atoi_digits (l : List UInt8) (h : ∀ c ∈ l, isD c = true) (hl : l.length ≤ 18) : Lib.atoiAll (48 :: l) = .ok (value 0 l) := by
 have h0 : ∀ c ∈ (48 :: l : List UInt8), isD c = true := by
  intro c hc
  rcases List.mem_cons.1 hc with rfl | hc
  ·decide
  ·exact h c hc
 have hp : 10 ^ l.length ≤ 10 ^ 18 := Nat.pow_le_pow_right (by omega) hl
 have hv := value_lt h 0
 have e : Lib.parseMag (48 :: l) = .ok (value 0 l) := by
  rw [Lib.parseMag, if_neg (by simp), parse_digits _ 0 h0 (by rw [List.length_cons, Nat.pow_succ]; omega)]
  rfl
 unfold Lib.atoiAll
 simp only [show ¬ ((48 : UInt8).toNat = 43 ∨ (48 : UInt8).toNat = 45) by decide, if_false, e]
 rw [if_neg (by omega), if_neg (by simp)]
 simp
def endD (s : ByteArray) (i : Nat) : Nat := i + lead (s.data.toList.drop i)
theorem at_list (s : ByteArray) (k : Nat) (h : k < s.size) : s[k] = s.data.toList[k]'(by simpa using h) := by
 simp [ByteArray.getElem_eq_getElem_data]
theorem endD_in (s : ByteArray) (i k : Nat) (h1 : i ≤ k) (h2 : k < endD s i) : ∃ h : k < s.size, 48 ≤ s[k].toNat ∧ s[k].toNat ≤ 57 := by
 unfold endD at h2
 obtain ⟨h3, h4⟩ := lead_in (s.data.toList.drop i) (k - i) (by omega)
 have hk : k < s.size := by
  rw [List.length_drop] at h3
  have e : s.data.toList.length = s.size := by simp
  omega
 refine ⟨hk, ?_⟩
 rw [at_list s k hk]
 have e : (s.data.toList.drop i)[k - i] = s.data.toList[k]'(by simpa using hk) := by
  rw [List.getElem_drop]
  congr 1
  omega
 rw [e] at h4
 exact isD_iff.1 h4
theorem endD_le (s : ByteArray) (i : Nat) (h : i ≤ s.size) : endD s i ≤ s.size := by
 unfold endD
 have := lead_le (s.data.toList.drop i)
 have e : s.data.toList.length = s.size := by simp
 rw [List.length_drop] at this
 omega
theorem endD_end (s : ByteArray) (i : Nat) (h : endD s i < s.size) : s[endD s i].toNat < 48 ∨ 57 < s[endD s i].toNat := by
 have e : s.data.toList.length = s.size := by simp
 have hl : lead (s.data.toList.drop i) < (s.data.toList.drop i).length := by
  rw [List.length_drop]
  unfold endD at h
  omega
 have := lead_end (s.data.toList.drop i) hl
 rw [List.getElem_drop] at this
 have h2 : s[endD s i] = s.data.toList[i + lead (s.data.toList.drop i)]'(by unfold endD at h; omega) := at_list s _ h
 rw [h2]
 have h3 := mt isD_iff.2 (by rw [this]; simp)
 omega
end Num
namespace Form
inductive Tree where
 | num (t : ByteArray)
 | un (op : ByteArray) (a : Tree)
 | bin (op : ByteArray) (a b : Tree)
def Tree.levels : Tree → Nat
 | .num _ => 1
 | .un _ a => 1 + a.levels
 | .bin _ a b => 1 + max a.levels b.levels
theorem max_sum {a b : Nat} (ha : 1 ≤ a) (hb : 1 ≤ b) : max a b + 1 ≤ a + b := by
 have := Nat.max_le.2 (show a ≤ a + b - 1 ∧ b ≤ a + b - 1 by omega)
 omega
theorem levels_pos (t : Tree) : 1 ≤ t.levels := by cases t <;> simp [Tree.levels] <;> omega
def ops : Nat → List ByteArray
 | 0 => [⟨#[111, 114]⟩]
 | 1 => [⟨#[97, 110, 100]⟩]
 | 3 => [⟨#[43]⟩, ⟨#[45]⟩]
 | 4 => [⟨#[42]⟩, ⟨#[47]⟩, ⟨#[109, 111, 100]⟩]
 | 5 => [⟨#[114, 111, 117, 110, 100]⟩]
 | _ => []
def cmpOps : List ByteArray := [⟨#[61]⟩, ⟨#[60, 62]⟩, ⟨#[60]⟩, ⟨#[62]⟩, ⟨#[60, 61]⟩, ⟨#[62, 61]⟩]
def unOps : List ByteArray := [⟨#[45]⟩, ⟨#[43]⟩, ⟨#[110, 111, 116]⟩, ⟨#[102, 108, 111, 111, 114]⟩]
def hat : List ByteArray := [⟨#[94]⟩]
def opn : List ByteArray := [⟨#[40]⟩]
def cls : List ByteArray := [⟨#[41]⟩]
def mem (t : ByteArray) (l : List ByteArray) : Bool := l.any fun o => decide (o = t)
theorem mem_iff {t : ByteArray} {l : List ByteArray} : mem t l = true ↔ t ∈ l := by simp [mem]
def take (l : List ByteArray) : List ByteArray → Option (ByteArray × List ByteArray)
 | [] => none
 | t :: r => if mem t l = true then some (t, r) else none
def dig1 (t : ByteArray) : Bool := match t.data.toList with
 | [] => false
 | c :: _ => Num.isD c
inductive Job where
 | lv (n : Nat)
 | loop (n : Nat) (a : Tree)
structure Res where
 T : Tree
 rest : List ByteArray
 bad : Bool
def prim (ts : List ByteArray) (b : Bool) : Option (List ByteArray) := if b = true then none else (take opn ts).map Prod.snd
def close (x : Res) : Res :=
 if x.bad = true then ⟨.un ⟨#[40]⟩ x.T, x.rest, true⟩ else
 match take cls x.rest with
 | none => ⟨.un ⟨#[40]⟩ x.T, x.rest, true⟩
 | some (_, r) => ⟨.un ⟨#[40]⟩ x.T, r, false⟩
def P : Nat → Job → List ByteArray → Bool → Option Res
 | 0, _, _, _ => none
 | f + 1, .loop n a, ts, b =>
   match take (ops n) ts with
   | none => some ⟨a, ts, b⟩
   | some (op, r) =>
     if b = true then some ⟨a, r, true⟩ else
     match P f (.lv (n + 1)) r b with
     | none => none
     | some s => P f (.loop n (.bin op a s.T)) s.rest s.bad
 | f + 1, .lv n, ts, b =>
   if n = 2 then
    match P f (.lv 3) ts b with
    | none => none
    | some x =>
      match take cmpOps x.rest with
      | none => some x
      | some (op, r) =>
        match P f (.lv 3) r x.bad with
        | none => none
        | some y => some ⟨.bin op x.T y.T, y.rest, y.bad⟩
   else if n = 6 then
    match take unOps ts with
    | none => P f (.lv 7) ts b
    | some (op, r) =>
      match P f (.lv 6) r b with
      | none => none
      | some x => some ⟨.un op x.T, x.rest, x.bad⟩
   else if n = 7 then
    match P f (.lv 8) ts b with
    | none => none
    | some x =>
      match take hat x.rest with
      | none => some x
      | some (_, r) =>
        match P f (.lv 6) r x.bad with
        | none => none
        | some y => some ⟨.bin ⟨#[94]⟩ x.T y.T, y.rest, y.bad⟩
   else if n = 8 then
    if (ts.head?.map dig1).getD false = true then some ⟨.num (ts.headD ⟨#[]⟩), ts.tail, b⟩
    else
     match prim ts b with
     | none => some ⟨.num ⟨#[]⟩, ts, true⟩
     | some r =>
       match P f (.lv 0) r false with
       | none => none
       | some x => some (close x)
   else
    match P f (.lv (n + 1)) ts b with
    | none => none
    | some x => P f (.loop n x.T) x.rest x.bad
theorem P_mono (f : Nat) : ∀ (j : Job) (ts : List ByteArray) (b : Bool) (r : Res), P f j ts b = some r → P (f + 1) j ts b = some r := by
 induction f with
 | zero => intro j ts b r h; simp [P] at h
 | succ f ih =>
   intro j ts b r h
   cases j with
   | loop n a =>
     rw [P] at h ⊢
     split at h
     ·exact h
     ·split at h
      ·rename_i h1; rw [if_pos h1]; exact h
      ·rename_i h1; rw [if_neg h1]
       split at h
       ·cases h
       ·rename_i s hs
        rw [ih _ _ _ _ hs]
        exact ih _ _ _ _ h
   | lv n =>
     rw [P] at h ⊢
     split at h
     ·rename_i hn; rw [if_pos hn]
      split at h
      ·cases h
      ·rename_i x hx
       rw [ih _ _ _ _ hx]
       simp only
       split at h
       ·exact h
       ·split at h
        ·cases h
        ·rename_i y hy
         rw [ih _ _ _ _ hy]
         exact h
     ·rename_i hn; rw [if_neg hn]
      split at h
      ·rename_i hn; rw [if_pos hn]
       split at h
       ·exact ih _ _ _ _ h
       ·split at h
        ·cases h
        ·rename_i y hy
         rw [ih _ _ _ _ hy]
         exact h
      ·rename_i hn; rw [if_neg hn]
       split at h
       ·rename_i hn; rw [if_pos hn]
        split at h
        ·cases h
        ·rename_i x hx
         rw [ih _ _ _ _ hx]
         simp only
         split at h
         ·exact h
         ·split at h
          ·cases h
          ·rename_i y hy
           rw [ih _ _ _ _ hy]
           exact h
       ·rename_i hn; rw [if_neg hn]
        split at h
        ·rename_i hn; rw [if_pos hn]
         split at h
         ·rename_i hd; rw [if_pos hd]; exact h
         ·rename_i hd; rw [if_neg hd]
          split at h
          ·exact h
          ·split at h
           ·cases h
           ·rename_i y hy
            rw [ih _ _ _ _ hy]
            exact h
        ·rename_i hn; rw [if_neg hn]
         split at h
         ·cases h
         ·rename_i x hx
          rw [ih _ _ _ _ hx]
          exact ih _ _ _ _ h
theorem P_le {f g : Nat} (hfg : f ≤ g) {j : Job} {ts : List ByteArray} {b : Bool} {r : Res} (h : P f j ts b = some r) : P g j ts b = some r := by
 induction hfg with
 | refl => exact h
 | step _ ih => exact P_mono _ _ _ _ _ ih
theorem take_len {l ts : List ByteArray} {op : ByteArray} {r : List ByteArray} (h : take l ts = some (op, r)) : r.length + 1 = ts.length ∧ op ∈ l ∧ ts = op :: r := by
 cases ts with
 | nil => simp [take] at h
 | cons t u =>
   by_cases hm : mem t l = true
   ·rw [take, if_pos hm] at h
    simp only [Option.some.injEq, Prod.mk.injEq] at h
    obtain ⟨rfl, rfl⟩ := h
    exact ⟨rfl, mem_iff.1 hm, rfl⟩
   ·rw [take, if_neg hm] at h
    cases h
theorem close_rest (x : Res) : (close x).rest.length ≤ x.rest.length := by
 unfold close
 split
 ·exact Nat.le_refl _
 ·split
  ·exact Nat.le_refl _
  ·rename_i h; have := (take_len h).1; simp only; omega
theorem P_len (f : Nat) : ∀ (j : Job) (ts : List ByteArray) (b : Bool) (r : Res), P f j ts b = some r → r.rest.length ≤ ts.length := by
 induction f with
 | zero => intro j ts b r h; simp [P] at h
 | succ f ih =>
   intro j ts b r h
   cases j with
   | loop n a =>
     rw [P] at h
     split at h
     ·simp only [Option.some.injEq] at h; subst h; exact Nat.le_refl _
     ·rename_i op u ht
      have hl := (take_len ht).1
      split at h
      ·simp only [Option.some.injEq] at h; subst h; simp only; omega
      ·split at h
       ·cases h
       ·rename_i s hs
        have h1 := ih _ _ _ _ hs
        have h2 := ih _ _ _ _ h
        omega
   | lv n =>
     rw [P] at h
     split at h
     ·split at h
      ·cases h
      ·rename_i x hx
       have h1 := ih _ _ _ _ hx
       split at h
       ·simp only [Option.some.injEq] at h; subst h; exact h1
       ·rename_i op u ht
        have hl := (take_len ht).1
        split at h
        ·cases h
        ·rename_i y hy
         have h2 := ih _ _ _ _ hy
         simp only [Option.some.injEq] at h; subst h; simp only; omega
     ·split at h
      ·split at h
       ·exact ih _ _ _ _ h
       ·rename_i op u ht
        have hl := (take_len ht).1
        split at h
        ·cases h
        ·rename_i y hy
         have h2 := ih _ _ _ _ hy
         simp only [Option.some.injEq] at h; subst h; simp only; omega
      ·split at h
       ·split at h
        ·cases h
        ·rename_i x hx
         have h1 := ih _ _ _ _ hx
         split at h
         ·simp only [Option.some.injEq] at h; subst h; exact h1
         ·rename_i op u ht
          have hl := (take_len ht).1
          split at h
          ·cases h
          ·rename_i y hy
           have h2 := ih _ _ _ _ hy
           simp only [Option.some.injEq] at h; subst h; simp only; omega
       ·split at h
        ·split at h
         ·simp only [Option.some.injEq] at h; subst h; simp
         ·split at h
          ·simp only [Option.some.injEq] at h; subst h; exact Nat.le_refl _
          ·rename_i u hp
           have hl : u.length ≤ ts.length := by
            unfold prim at hp
            split at hp
            ·cases hp
            ·cases ht : take opn ts with
             | none => rw [ht] at hp; cases hp
             | some x =>
               obtain ⟨op, v⟩ := x
               have := (take_len ht).1
               rw [ht] at hp
               simp only [Option.map_some, Option.some.injEq] at hp
               subst hp
               omega
           split at h
           ·cases h
           ·rename_i y hy
            have h2 := ih _ _ _ _ hy
            have h3 := close_rest y
            simp only [Option.some.injEq] at h; subst h; omega
        ·split at h
         ·cases h
         ·rename_i x hx
          have h1 := ih _ _ _ _ hx
          have h2 := ih _ _ _ _ h
          omega
def jobL : Job → Nat
 | .lv _ => 1
 | .loop _ a => a.levels
theorem P_levels (f : Nat) : ∀ (j : Job) (ts : List ByteArray) (b : Bool) (r : Res), P f j ts b = some r → r.T.levels + r.rest.length ≤ ts.length + jobL j := by
 induction f with
 | zero => intro j ts b r h; simp [P] at h
 | succ f ih =>
   intro j ts b r h
   cases j with
   | loop n a =>
     rw [P] at h
     have ha := levels_pos a
     split at h
     ·simp only [Option.some.injEq] at h; subst h; simp only [jobL]; omega
     ·rename_i op u ht
      have hl := (take_len ht).1
      split at h
      ·simp only [Option.some.injEq] at h; subst h; simp only [jobL]; omega
      ·split at h
       ·cases h
       ·rename_i s hs
        have h1 := ih _ _ _ _ hs
        have h2 := ih _ _ _ _ h
        have hm := max_sum ha (levels_pos s.T)
        simp only [jobL, Tree.levels] at h1 h2 ⊢
        omega
   | lv n =>
     rw [P] at h
     split at h
     ·split at h
      ·cases h
      ·rename_i x hx
       have h1 := ih _ _ _ _ hx
       split at h
       ·simp only [Option.some.injEq] at h; subst h; exact h1
       ·rename_i op u ht
        have hl := (take_len ht).1
        split at h
        ·cases h
        ·rename_i y hy
         have h2 := ih _ _ _ _ hy
         have hm := max_sum (levels_pos x.T) (levels_pos y.T)
         simp only [Option.some.injEq] at h; subst h; simp only [jobL, Tree.levels] at h1 h2 ⊢; omega
     ·split at h
      ·split at h
       ·have h1 := ih _ _ _ _ h; simp only [jobL] at h1 ⊢; exact h1
       ·rename_i op u ht
        have hl := (take_len ht).1
        split at h
        ·cases h
        ·rename_i y hy
         have h2 := ih _ _ _ _ hy
         simp only [Option.some.injEq] at h; subst h; simp only [jobL, Tree.levels] at h2 ⊢; omega
      ·split at h
       ·split at h
        ·cases h
        ·rename_i x hx
         have h1 := ih _ _ _ _ hx
         split at h
         ·simp only [Option.some.injEq] at h; subst h; exact h1
         ·rename_i op u ht
          have hl := (take_len ht).1
          split at h
          ·cases h
          ·rename_i y hy
           have h2 := ih _ _ _ _ hy
           have hm := max_sum (levels_pos x.T) (levels_pos y.T)
           simp only [Option.some.injEq] at h; subst h; simp only [jobL, Tree.levels] at h1 h2 ⊢; omega
       ·split at h
        ·split at h
         ·simp only [Option.some.injEq] at h; subst h; simp [Tree.levels, jobL]; omega
         ·split at h
          ·simp only [Option.some.injEq] at h; subst h; simp only [Tree.levels, jobL]; omega
          ·rename_i u hp
           have hl : u.length + 1 ≤ ts.length := by
            unfold prim at hp
            split at hp
            ·cases hp
            ·cases ht : take opn ts with
             | none => rw [ht] at hp; cases hp
             | some x =>
               obtain ⟨op, v⟩ := x
               have := (take_len ht).1
               rw [ht] at hp
               simp only [Option.map_some, Option.some.injEq] at hp
               subst hp
               omega
           split at h
           ·cases h
           ·rename_i y hy
            have h2 := ih _ _ _ _ hy
            have h3 := close_rest y
            have h4 : (close y).T.levels = 1 + y.T.levels := by
             unfold close
             split
             ·rfl
             ·split <;> rfl
            simp only [Option.some.injEq] at h; subst h; simp only [jobL] at h2 ⊢; omega
        ·split at h
         ·cases h
         ·rename_i x hx
          have h1 := ih _ _ _ _ hx
          have h2 := ih _ _ _ _ h
          simp only [jobL] at h1 h2 ⊢
          omega
theorem P_total (m : Nat) : (∀ (k : Nat) (ts : List ByteArray) (b : Bool), k ≤ 8 → ts.length ≤ m → ∃ f r, P f (.lv (8 - k)) ts b = some r ∧ r.rest.length ≤ ts.length)
  ∧ (∀ (n : Nat) (a : Tree) (ts : List ByteArray) (b : Bool), n ≤ 5 → ts.length ≤ m → ∃ f r, P f (.loop n a) ts b = some r ∧ r.rest.length ≤ ts.length) := by
 induction m using Nat.strongRecOn with
 | _ m ih =>
   have low : ∀ (k : Nat) (ts : List ByteArray) (b : Bool), k ≤ 8 → ts.length < m → ∃ f r, P f (.lv (8 - k)) ts b = some r ∧ r.rest.length ≤ ts.length := fun k ts b hk h => (ih ts.length h).1 k ts b hk (Nat.le_refl _)
   have lowl : ∀ (n : Nat) (a : Tree) (ts : List ByteArray) (b : Bool), n ≤ 5 → ts.length < m → ∃ f r, P f (.loop n a) ts b = some r ∧ r.rest.length ≤ ts.length := fun n a ts b hn h => (ih ts.length h).2 n a ts b hn (Nat.le_refl _)
   have hloop : ∀ (n : Nat) (a : Tree) (ts : List ByteArray) (b : Bool), n ≤ 5 → ts.length ≤ m → ∃ f r, P f (.loop n a) ts b = some r ∧ r.rest.length ≤ ts.length := by
    intro n a ts b hn h
    cases ht : take (ops n) ts with
    | none => exact ⟨1, ⟨a, ts, b⟩, by simp [P, ht], Nat.le_refl _⟩
    | some x =>
      obtain ⟨op, r⟩ := x
      have hl := (take_len ht).1
      cases b with
      | true => exact ⟨1, ⟨a, r, true⟩, by simp [P, ht], by simp only; omega⟩
      | false =>
        obtain ⟨f1, r1, h1, l1⟩ := low (7 - n) r false (by omega) (by omega)
        rw [show 8 - (7 - n) = n + 1 by omega] at h1
        obtain ⟨f2, r2, h2, l2⟩ := lowl n (.bin op a r1.T) r1.rest r1.bad hn (by omega)
        refine ⟨max f1 f2 + 1, r2, ?_, by omega⟩
        rw [P, ht]
        simp only [Bool.false_eq_true, if_false]
        rw [P_le (Nat.le_max_left f1 f2) h1]
        exact P_le (Nat.le_max_right f1 f2) h2
   refine ⟨?_, hloop⟩
   intro k
   induction k with
   | zero =>
     intro ts b _ h
     by_cases hd : (ts.head?.map dig1).getD false = true
     ·exact ⟨1, ⟨.num (ts.headD ⟨#[]⟩), ts.tail, b⟩, by simp [P, hd], by simp⟩
     ·cases hp : prim ts b with
      | none => exact ⟨1, ⟨.num ⟨#[]⟩, ts, true⟩, by simp [P, hd, hp], Nat.le_refl _⟩
      | some r =>
        have hl : r.length < ts.length := by
         unfold prim at hp
         split at hp
         ·cases hp
         ·cases ht : take opn ts with
          | none => rw [ht] at hp; cases hp
          | some x =>
            obtain ⟨op, u⟩ := x
            have := (take_len ht).1
            rw [ht] at hp
            simp only [Option.map_some, Option.some.injEq] at hp
            subst hp
            omega
        obtain ⟨f1, r1, h1, l1⟩ := low 8 r false (by omega) (by omega)
        have hc := close_rest r1
        refine ⟨f1 + 1, close r1, ?_, by omega⟩
        simp only [Nat.sub_self] at h1
        simp [P, hd, hp, h1]
   | succ k ihk =>
     intro ts b hk h
     obtain ⟨f1, r1, h1, l1⟩ := ihk ts b (by omega) h
     by_cases k0 : k = 0
     ·subst k0
      cases ht : take hat r1.rest with
      | none => exact ⟨f1 + 1, r1, by simp only [Nat.sub_zero] at h1; simp [P, h1, ht], l1⟩
      | some x =>
        obtain ⟨op, r⟩ := x
        have hl := (take_len ht).1
        obtain ⟨f2, r2, h2, l2⟩ := low 2 r r1.bad (by omega) (by omega)
        refine ⟨max f1 f2 + 1, ⟨.bin ⟨#[94]⟩ r1.T r2.T, r2.rest, r2.bad⟩, ?_, by simp only; omega⟩
        simp only [Nat.sub_zero] at h1
        have e1 := P_le (Nat.le_max_left f1 f2) h1
        have e2 := P_le (Nat.le_max_right f1 f2) h2
        simp only [show 8 - 2 = 6 by omega] at e2
        simp [P, e1, e2, ht]
     ·by_cases k1 : k = 1
      ·subst k1
       cases ht : take unOps ts with
       | none => exact ⟨f1 + 1, r1, by simp only [show 8 - 1 = 7 by omega] at h1; simp [P, h1, ht], l1⟩
       | some x =>
         obtain ⟨op, r⟩ := x
         have hl := (take_len ht).1
         obtain ⟨f2, r2, h2, l2⟩ := low 2 r b (by omega) (by omega)
         refine ⟨f2 + 1, ⟨.un op r2.T, r2.rest, r2.bad⟩, ?_, by simp only; omega⟩
         simp only [show 8 - 2 = 6 by omega] at h2
         simp [P, h2, ht]
      ·by_cases k5 : k = 5
       ·subst k5
        cases ht : take cmpOps r1.rest with
        | none => exact ⟨f1 + 1, r1, by simp only [show 8 - 5 = 3 by omega] at h1; simp [P, h1, ht], l1⟩
        | some x =>
          obtain ⟨op, r⟩ := x
          have hl := (take_len ht).1
          obtain ⟨f2, r2, h2, l2⟩ := low 5 r r1.bad (by omega) (by omega)
          refine ⟨max f1 f2 + 1, ⟨.bin op r1.T r2.T, r2.rest, r2.bad⟩, ?_, by simp only; omega⟩
          have e1 := P_le (Nat.le_max_left f1 f2) h1
          have e2 := P_le (Nat.le_max_right f1 f2) h2
          simp only [show 8 - 5 = 3 by omega] at e1 e2
          simp [P, e1, e2, ht]
       ·obtain ⟨f2, r2, h2, l2⟩ := hloop (8 - (k + 1)) r1.T r1.rest r1.bad (by omega) (by omega)
        refine ⟨max f1 f2 + 1, r2, ?_, by omega⟩
        have e1 := P_le (Nat.le_max_left f1 f2) h1
        have e2 := P_le (Nat.le_max_right f1 f2) h2
        rw [show 8 - k = 8 - (k + 1) + 1 by omega] at e1
        rw [P, if_neg (by omega), if_neg (by omega), if_neg (by omega), if_neg (by omega), e1]
        exact e2
theorem P_bad (f : Nat) : ∀ (j : Job) (ts : List ByteArray) (r : Res), P f j ts true = some r → r.bad = true := by
 induction f with
 | zero => intro j ts r h; simp [P] at h
 | succ f ih =>
   intro j ts r h
   cases j with
   | loop n a =>
     rw [P] at h
     split at h
     ·simp only [Option.some.injEq] at h; subst h; rfl
     ·simp only [if_true, Option.some.injEq] at h; subst h; rfl
   | lv n =>
     rw [P] at h
     split at h
     ·split at h
      ·cases h
      ·rename_i x hx
       have hb := ih _ _ _ hx
       rw [hb] at h
       split at h
       ·simp only [Option.some.injEq] at h; subst h; exact hb
       ·split at h
        ·cases h
        ·rename_i y hy
         simp only [Option.some.injEq] at h; subst h; exact (ih _ _ _ hy : y.bad = true)
     ·split at h
      ·split at h
       ·exact ih _ _ _ h
       ·split at h
        ·cases h
        ·rename_i y hy
         simp only [Option.some.injEq] at h; subst h; exact (ih _ _ _ hy : y.bad = true)
      ·split at h
       ·split at h
        ·cases h
        ·rename_i x hx
         have hb := ih _ _ _ hx
         rw [hb] at h
         split at h
         ·simp only [Option.some.injEq] at h; subst h; exact hb
         ·split at h
          ·cases h
          ·rename_i y hy
           simp only [Option.some.injEq] at h; subst h; exact (ih _ _ _ hy : y.bad = true)
       ·split at h
        ·split at h
         ·simp only [Option.some.injEq] at h; subst h; rfl
         ·simp only [prim, if_true, Option.some.injEq] at h; subst h; rfl
        ·split at h
         ·cases h
         ·rename_i x hx
          have hb := ih _ _ _ hx
          rw [hb] at h
          exact ih _ _ _ h
end Form
namespace Form
def leadR (lo hi : UInt8) : List UInt8 → Nat
 | [] => 0
 | c :: r => if lo ≤ c ∧ c ≤ hi then leadR lo hi r + 1 else 0
theorem leadR_le (lo hi : UInt8) : ∀ l : List UInt8, leadR lo hi l ≤ l.length
 | [] => Nat.le_refl _
 | c :: r => by unfold leadR; have := leadR_le lo hi r; split <;> simp <;> omega
theorem leadR_in (lo hi : UInt8) : ∀ (l : List UInt8) (k : Nat), k < leadR lo hi l → ∃ h : k < l.length, lo ≤ l[k] ∧ l[k] ≤ hi
 | [], k, h => by simp [leadR] at h
 | c :: r, k, h => by
   unfold leadR at h
   split at h
   ·cases k with
    | zero => exact ⟨by simp, by assumption⟩
    | succ k =>
      obtain ⟨h1, h2⟩ := leadR_in lo hi r k (by omega)
      exact ⟨by simp; omega, by simpa using h2⟩
   ·omega
theorem leadR_end (lo hi : UInt8) : ∀ (l : List UInt8) (h : leadR lo hi l < l.length), ¬ (lo ≤ l[leadR lo hi l] ∧ l[leadR lo hi l] ≤ hi)
 | [], h => by simp at h
 | c :: r, h => by
   by_cases hc : lo ≤ c ∧ c ≤ hi
   ·have e : leadR lo hi (c :: r) = leadR lo hi r + 1 := by rw [leadR, if_pos hc]
    have := leadR_end lo hi r (by rw [e] at h; simpa using h)
    simpa [e] using this
   ·have e : leadR lo hi (c :: r) = 0 := by rw [leadR, if_neg hc]
    simpa [e] using hc
def words : List (List UInt8) := [[109, 111, 100], [97, 110, 100], [111, 114], [110, 111, 116], [114, 111, 117, 110, 100], [102, 108, 111, 111, 114]]
def pairs : List (List UInt8) := [[60, 61], [62, 61], [60, 62]]
def singles : List UInt8 := [43, 45, 42, 47, 94, 40, 41, 61, 60, 62]
def next (l : List UInt8) : Nat :=
 let n := leadR 48 57 l
 if 0 < n then
  if 9 < n then 0
  else if (l.drop n).head? = some 46 then
   let m := leadR 48 57 (l.drop (n + 1))
   if 9 < m then 0 else if 0 < m then n + 1 + m else n
  else n
 else
  let k := leadR 97 122 l
  if 0 < k then (if l.take k ∈ words then k else 0)
  else if l.take 2 ∈ pairs then 2
  else if l.head?.any (fun c => decide (c ∈ singles)) = true then 1 else 0
def blank (c : UInt8) : Bool := c == 32 || c == 9 || c == 10
def scan : Nat → List UInt8 → Option (List ByteArray)
 | _, [] => some []
 | 0, _ :: _ => none
 | k + 1, c :: r =>
   if blank c = true then scan k r
   else if next (c :: r) = 0 then none
   else (scan k ((c :: r).drop (next (c :: r)))).map (⟨((c :: r).take (next (c :: r))).toArray⟩ :: ·)
def tokens (l : List UInt8) : Option (List ByteArray) := scan l.length l
theorem scan_nil (k : Nat) : scan k [] = some [] := by cases k <;> rfl
theorem scan_more (k : Nat) : ∀ l : List UInt8, l.length ≤ k → scan k l = tokens l := by
 induction k using Nat.strongRecOn with
 | _ k ih =>
   intro l hl
   cases l with
   | nil => rw [scan_nil]; rfl
   | cons c r =>
     cases k with
     | zero => simp at hl
     | succ k =>
       simp only [List.length_cons] at hl
       unfold tokens
       rw [List.length_cons, scan, scan]
       split
       ·rw [ih k (by omega) r (by omega)]
        rfl
       ·split
        ·rfl
        ·rename_i h0
         have hd : ((c :: r).drop (next (c :: r))).length ≤ r.length := by rw [List.length_drop, List.length_cons]; omega
         rw [ih k (by omega) _ (by omega)]
         by_cases hr : r.length < k + 1
         ·rw [ih r.length (by omega) _ hd]
         ·omega
theorem tokens_nil : tokens [] = some [] := rfl
theorem tokens_blank {c : UInt8} {r : List UInt8} (h : blank c = true) : tokens (c :: r) = tokens r := by
 unfold tokens
 rw [List.length_cons, scan, if_pos h]
theorem tokens_none {c : UInt8} {r : List UInt8} (h : blank c = false) (h0 : next (c :: r) = 0) : tokens (c :: r) = none := by
 unfold tokens
 rw [List.length_cons, scan, if_neg (by simp [h]), if_pos h0]
theorem tokens_some {c : UInt8} {r : List UInt8} (h : blank c = false) (h0 : next (c :: r) ≠ 0) :
  tokens (c :: r) = (tokens ((c :: r).drop (next (c :: r)))).map (⟨((c :: r).take (next (c :: r))).toArray⟩ :: ·) := by
 conv => lhs; unfold tokens
 rw [List.length_cons, scan, if_neg (by simp [h]), if_neg h0, scan_more _ _ (by rw [List.length_drop, List.length_cons]; omega)]
theorem next_le (l : List UInt8) : next l ≤ l.length := by
 have h1 := leadR_le 48 57 l
 have h2 := leadR_le 97 122 l
 have h3 := leadR_le 48 57 (l.drop (leadR 48 57 l + 1))
 rw [List.length_drop] at h3
 unfold next
 simp only
 split
 ·split
  ·omega
  ·split
   ·rename_i hd
    split
    ·omega
    ·split <;> omega
   ·omega
 ·split
  ·split <;> omega
  ·split
   ·rename_i hp
    have : (l.take 2).length = 2 := by
     simp only [pairs, List.mem_cons, List.not_mem_nil, or_false] at hp
     rcases hp with h | h | h <;> rw [h] <;> rfl
    rw [List.length_take] at this
    omega
   ·split
    ·rename_i hs
     cases l with
     | nil => simp at hs
     | cons c r => simp
    ·omega
theorem scan_len (k : Nat) : ∀ (l : List UInt8) (ts : List ByteArray), scan k l = some ts → ts.length ≤ l.length := by
 induction k with
 | zero =>
   intro l ts h
   cases l with
   | nil => simp [scan] at h; subst h; simp
   | cons c r => simp [scan] at h
 | succ k ih =>
   intro l ts h
   cases l with
   | nil => simp [scan] at h; subst h; simp
   | cons c r =>
     rw [scan] at h
     split at h
     ·have := ih r ts h; simp; omega
     ·split at h
      ·cases h
      ·rename_i h0
       cases hx : scan k ((c :: r).drop (next (c :: r))) with
       | none => rw [hx] at h; cases h
       | some us =>
         rw [hx] at h
         simp only [Option.map_some, Option.some.injEq] at h
         subst h
         have := ih _ us hx
         rw [List.length_drop, List.length_cons] at this
         simp only [List.length_cons]
         omega
theorem tokens_len {l : List UInt8} {ts : List ByteArray} (h : tokens l = some ts) : ts.length ≤ l.length := scan_len _ l ts h
end Form
namespace Form
theorem next_19 (l : List UInt8) : next l ≤ 19 := by
 have h2 := leadR_le 97 122 l
 unfold next
 simp only
 split
 ·split
  ·omega
  ·split
   ·split
    ·omega
    ·split <;> omega
   ·omega
 ·split
  ·split
   ·rename_i hw
    have e : (l.take (leadR 97 122 l)).length = leadR 97 122 l := by rw [List.length_take]; omega
    have : (l.take (leadR 97 122 l)).length ≤ 5 := by
     simp only [words, List.mem_cons, List.not_mem_nil, or_false] at hw
     rcases hw with h | h | h | h | h | h <;> rw [h] <;> simp
    omega
   ·omega
  ·split
   ·omega
   ·split <;> omega
theorem scan_sz (k : Nat) : ∀ (l : List UInt8) (ts : List ByteArray), scan k l = some ts → ∀ t ∈ ts, 0 < t.size ∧ t.size ≤ 19 := by
 induction k with
 | zero =>
   intro l ts h
   cases l with
   | nil => simp [scan] at h; subst h; simp
   | cons c r => simp [scan] at h
 | succ k ih =>
   intro l ts h
   cases l with
   | nil => simp [scan] at h; subst h; simp
   | cons c r =>
     rw [scan] at h
     split at h
     ·exact ih r ts h
     ·split at h
      ·cases h
      ·rename_i h0
       cases hx : scan k ((c :: r).drop (next (c :: r))) with
       | none => rw [hx] at h; cases h
       | some us =>
         rw [hx] at h
         simp only [Option.map_some, Option.some.injEq] at h
         subst h
         intro t ht
         rcases List.mem_cons.1 ht with e | e
         ·have h1 := next_le (c :: r)
          have h2 := next_19 (c :: r)
          have h3 : t.size = ((c :: r).take (next (c :: r))).length := by rw [e]; rfl
          rw [List.length_take] at h3
          omega
         ·exact ih _ us hx t e
theorem tokens_sz {l : List UInt8} {ts : List ByteArray} (h : tokens l = some ts) : ∀ t ∈ ts, 0 < t.size ∧ t.size ≤ 19 := scan_sz _ l ts h
def Tree.fine : Tree → Prop
 | .num t => t.size ≤ 100
 | .un op a => ¬ op = ⟨#[]⟩ ∧ a.fine
 | .bin op a b => ¬ op = ⟨#[]⟩ ∧ a.fine ∧ b.fine
def jobF : Job → Prop
 | .lv _ => True
 | .loop _ a => a.fine
def Short (ts : List ByteArray) : Prop := ∀ t ∈ ts, 0 < t.size ∧ t.size ≤ 100
theorem Short.take {l ts : List ByteArray} {op : ByteArray} {r : List ByteArray} (hs : Short ts) (h : Form.take l ts = some (op, r)) : ¬ op = ⟨#[]⟩ ∧ Short r := by
 obtain ⟨-, -, e⟩ := take_len h
 subst e
 refine ⟨fun e => ?_, fun t ht => hs t (List.mem_cons_of_mem _ ht)⟩
 have := (hs op (List.mem_cons_self)).1
 rw [e] at this
 exact absurd this (by decide)
theorem Short.close {x : Res} (h : Short x.rest) : Short (close x).rest := by
 unfold Form.close
 split
 ·exact h
 ·split
  ·exact h
  ·rename_i ht; exact (h.take ht).2
theorem P_fine (f : Nat) : ∀ (j : Job) (ts : List ByteArray) (b : Bool) (r : Res), P f j ts b = some r → Short ts → jobF j → r.T.fine ∧ Short r.rest := by
 induction f with
 | zero => intro j ts b r h; simp [P] at h
 | succ f ih =>
   intro j ts b r h hs hj
   cases j with
   | loop n a =>
     rw [P] at h
     split at h
     ·simp only [Option.some.injEq] at h; subst h; exact ⟨hj, hs⟩
     ·rename_i op u ht
      have hl := hs.take ht
      split at h
      ·simp only [Option.some.injEq] at h; subst h; exact ⟨hj, hl.2⟩
      ·split at h
       ·cases h
       ·rename_i s hs1
        have h1 := ih _ _ _ _ hs1 hl.2 trivial
        exact ih _ _ _ _ h h1.2 ⟨hl.1, hj, h1.1⟩
   | lv n =>
     rw [P] at h
     split at h
     ·split at h
      ·cases h
      ·rename_i x hx
       have h1 := ih _ _ _ _ hx hs trivial
       split at h
       ·simp only [Option.some.injEq] at h; subst h; exact h1
       ·rename_i op u ht
        have hl := h1.2.take ht
        split at h
        ·cases h
        ·rename_i y hy
         have h2 := ih _ _ _ _ hy hl.2 trivial
         simp only [Option.some.injEq] at h; subst h; exact ⟨⟨hl.1, h1.1, h2.1⟩, h2.2⟩
     ·split at h
      ·split at h
       ·exact ih _ _ _ _ h hs trivial
       ·rename_i op u ht
        have hl := hs.take ht
        split at h
        ·cases h
        ·rename_i y hy
         have h2 := ih _ _ _ _ hy hl.2 trivial
         simp only [Option.some.injEq] at h; subst h; exact ⟨⟨hl.1, h2.1⟩, h2.2⟩
      ·split at h
       ·split at h
        ·cases h
        ·rename_i x hx
         have h1 := ih _ _ _ _ hx hs trivial
         split at h
         ·simp only [Option.some.injEq] at h; subst h; exact h1
         ·rename_i op u ht
          have hl := h1.2.take ht
          split at h
          ·cases h
          ·rename_i y hy
           have h2 := ih _ _ _ _ hy hl.2 trivial
           simp only [Option.some.injEq] at h; subst h; exact ⟨⟨by decide, h1.1, h2.1⟩, h2.2⟩
       ·split at h
        ·split at h
         ·rename_i hd
          simp only [Option.some.injEq] at h; subst h
          cases ts with
          | nil => simp at hd
          | cons t u => exact ⟨(hs t List.mem_cons_self).2, fun v hv => hs v (List.mem_cons_of_mem _ hv)⟩
         ·split at h
          ·simp only [Option.some.injEq] at h; subst h; exact ⟨show (⟨#[]⟩ : ByteArray).size ≤ 100 by decide, hs⟩
          ·rename_i u hp
           have hu : Short u := by
            unfold prim at hp
            split at hp
            ·cases hp
            ·cases ht : Form.take opn ts with
             | none => rw [ht] at hp; cases hp
             | some x =>
               obtain ⟨op, v⟩ := x
               have := (hs.take ht).2
               rw [ht] at hp
               simp only [Option.map_some, Option.some.injEq] at hp
               subst hp
               exact this
           split at h
           ·cases h
           ·rename_i y hy
            have h2 := ih _ _ _ _ hy hu trivial
            simp only [Option.some.injEq] at h; subst h
            refine ⟨?_, h2.2.close⟩
            have : (Form.close y).T = .un ⟨#[40]⟩ y.T := by
             unfold Form.close
             split
             ·rfl
             ·split <;> rfl
            rw [this]
            exact ⟨by decide, h2.1⟩
        ·split at h
         ·cases h
         ·rename_i x hx
          have h1 := ih _ _ _ _ hx hs trivial
          exact ih _ _ _ _ h h1.2 h1.1
end Form
end Go.Proofs.YtcklofamaooegaaGreatDoor
