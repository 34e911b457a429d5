/-
  Formulas in plain mathematics: a list of tokens in parentheses is read as it is read without. No program in sight. No conditions but those typed in each theorem.
  Formulas in plain mathematics: rules by which texts are divided and tokens are read. No program in sight. No conditions but those typed in each theorem.
  Formulas in plain mathematics: the tokens of texts that are put together. No program in sight. No conditions but those typed in each theorem.
-/
import Derived.Test.YtlkfnpmcihfjmaaDoorBla

namespace Go.Proofs.YtlkfnpmcihfjmaaDoor
namespace Form

theorem exc_app (a b : List ByteArray) : exc (a ++ b) = exc a + exc b := by
  induction a with
  | nil => simp [exc]
  | cons t r ih => rw [List.cons_append, exc, exc, ih]; omega
/-- parentheses stand in order -/
def Bal (ts : List ByteArray) : Prop := exc ts = 0 ∧ ∀ p q, ts = p ++ q → exc p ≤ 0
theorem Bal.nil : Bal [] := ⟨rfl, fun p q h => by
  have : p = [] := (List.append_eq_nil_iff.1 h.symm).1
  rw [this]; exact Int.le_refl _⟩
theorem Bal.app {a b : List ByteArray} (h : Bal a) (k : Bal b) : Bal (a ++ b) := by
  refine ⟨by rw [exc_app, h.1, k.1]; rfl, fun p q e => ?_⟩
  rcases List.append_eq_append_iff.1 e with ⟨c, h1, h2⟩ | ⟨c, h1, h2⟩
  · subst h1
    rw [exc_app, h.1]
    have := k.2 c q h2
    omega
  · exact h.2 p c h1
theorem Bal.one {t : ByteArray} (h1 : ¬ t = ⟨#[41]⟩) (h2 : ¬ t = ⟨#[40]⟩) : Bal [t] := by
  have e : exc [t] = 0 := by rw [exc, if_neg h1, if_neg h2]; rfl
  refine ⟨e, fun p q h => ?_⟩
  cases p with
  | nil => exact Int.le_refl _
  | cons d r =>
    obtain ⟨rfl, hr⟩ := List.cons.inj h
    have : r = [] := (List.append_eq_nil_iff.1 hr.symm).1
    rw [this, e]
    exact Int.le_refl _
theorem Bal.par {a : List ByteArray} (h : Bal a) : Bal (⟨#[40]⟩ :: (a ++ [⟨#[41]⟩])) := by
  have e1 : exc [(⟨#[41]⟩ : ByteArray)] = 1 := by decide
  have e2 : ∀ r, exc (⟨#[40]⟩ :: r) = -1 + exc r := fun r => by rw [exc, if_neg (by decide), if_pos rfl]
  refine ⟨by rw [e2, exc_app, h.1, e1]; rfl, fun p q e => ?_⟩
  cases p with
  | nil => exact Int.le_refl _
  | cons d r =>
    obtain ⟨rfl, hr⟩ := List.cons.inj e
    rw [e2]
    rcases List.append_eq_append_iff.1 hr with ⟨c, h1, h2⟩ | ⟨c, h1, h2⟩
    · subst h1
      rw [exc_app, h.1]
      cases c with
      | nil => simp [exc]
      | cons x y =>
        obtain ⟨rfl, hy⟩ := List.cons.inj h2
        have : y = [] := (List.append_eq_nil_iff.1 hy.symm).1
        rw [this, e1]
        omega
    · have := h.2 r c h1
      omega
/-- what is left is an end of what was there -/
theorem P_suf (f : Nat) : ∀ (j : Job) (ts : List ByteArray) (b : Bool) (r : Res), P f j ts b = some r → ∃ p, ts = p ++ r.rest := by
  have tk : ∀ {l ts : List ByteArray} {op : ByteArray} {u : List ByteArray} {v : List ByteArray}, take l ts = some (op, u) → (∃ p, u = p ++ v) → ∃ p, ts = p ++ v := by
    intro l ts op u v h ⟨p, hp⟩
    obtain ⟨-, -, e⟩ := take_len h
    exact ⟨op :: p, by rw [e, hp]; rfl⟩
  have tr : ∀ {a b c : List ByteArray}, (∃ p, a = p ++ b) → (∃ p, b = p ++ c) → ∃ p, a = p ++ c := by
    rintro a b c ⟨p, rfl⟩ ⟨q, rfl⟩
    exact ⟨p ++ q, by simp⟩
  induction f with
  | zero => intro j ts b r h; simp [P] at h
  | succ f ih =>
    intro j ts b r h
    cases j with
    | loop n a =>
      rw [P] at h
      split at h
      · simp only [Option.some.injEq] at h; subst h; exact ⟨[], rfl⟩
      · rename_i op u ht
        split at h
        · simp only [Option.some.injEq] at h; subst h; exact tk ht ⟨[], rfl⟩
        · split at h
          · cases h
          · rename_i s hs
            exact tk ht (tr (ih _ _ _ _ hs) (ih _ _ _ _ h))
    | lv n =>
      rw [P] at h
      split at h
      · split at h
        · cases h
        · rename_i x hx
          split at h
          · simp only [Option.some.injEq] at h; subst h; exact ih _ _ _ _ hx
          · rename_i op u ht
            split at h
            · cases h
            · rename_i y hy
              simp only [Option.some.injEq] at h; subst h
              have h1 := ih _ _ _ _ hx
              have h2 := ih _ _ _ _ hy
              exact tr h1 (tk ht h2)
      · split at h
        · split at h
          · exact ih _ _ _ _ h
          · rename_i op u ht
            split at h
            · cases h
            · rename_i y hy
              simp only [Option.some.injEq] at h; subst h
              have h2 := ih _ _ _ _ hy
              exact tk ht h2
        · split at h
          · split at h
            · cases h
            · rename_i x hx
              split at h
              · simp only [Option.some.injEq] at h; subst h; exact ih _ _ _ _ hx
              · rename_i op u ht
                split at h
                · cases h
                · rename_i y hy
                  simp only [Option.some.injEq] at h; subst h
                  have h1 := ih _ _ _ _ hx
                  have h2 := ih _ _ _ _ hy
                  exact tr h1 (tk ht h2)
          · split at h
            · split at h
              · rename_i hd
                simp only [Option.some.injEq] at h; subst h
                cases ts with
                | nil => exact ⟨[], rfl⟩
                | cons t u => exact ⟨[t], rfl⟩
              · split at h
                · simp only [Option.some.injEq] at h; subst h; exact ⟨[], rfl⟩
                · rename_i u hp
                  obtain ⟨-, rfl⟩ := prim_some hp
                  split at h
                  · cases h
                  · rename_i y hy
                    simp only [Option.some.injEq] at h; subst h
                    have h1 : ∃ p, (⟨#[40]⟩ :: u) = p ++ y.rest := by
                      obtain ⟨p, hp⟩ := ih _ _ _ _ hy
                      exact ⟨⟨#[40]⟩ :: p, by rw [hp]; rfl⟩
                    unfold close
                    split
                    · exact h1
                    · split
                      · exact h1
                      · rename_i cl v ht
                        exact tr h1 (tk ht ⟨[], rfl⟩)
            · split at h
              · cases h
              · rename_i x hx
                exact tr (ih _ _ _ _ hx) (ih _ _ _ _ h)
/-- from one level to the one below -/
theorem up_bad {L : List ByteArray} (hun : take unOps L = none) {n f F : Nat} {x R : Res} (hn : n ≤ 7) (hx : P f (.lv (n + 1)) L false = some x) (hb : x.bad = true) (hR : P F (.lv n) L false = some R) : R.bad = true := by
  cases F with
  | zero => simp [P] at hR
  | succ F =>
    rw [P] at hR
    by_cases h2 : n = 2
    · subst h2
      rw [if_pos rfl] at hR
      cases hy : P F (.lv 3) L false with
      | none => rw [hy] at hR; cases hR
      | some y =>
        obtain rfl := P_one hx hy
        rw [hy] at hR
        simp only at hR
        split at hR
        · simp only [Option.some.injEq] at hR; subst hR; exact hb
        · rw [hb] at hR
          split at hR
          · cases hR
          · rename_i z hz
            simp only [Option.some.injEq] at hR; subst hR
            exact (P_bad _ _ _ _ hz : z.bad = true)
    · rw [if_neg h2] at hR
      by_cases h6 : n = 6
      · subst h6
        rw [if_pos rfl, hun] at hR
        obtain rfl := P_one hx hR
        exact hb
      · rw [if_neg h6] at hR
        by_cases h7 : n = 7
        · subst h7
          rw [if_pos rfl] at hR
          cases hy : P F (.lv 8) L false with
          | none => rw [hy] at hR; cases hR
          | some y =>
            obtain rfl := P_one hx hy
            rw [hy] at hR
            simp only at hR
            split at hR
            · simp only [Option.some.injEq] at hR; subst hR; exact hb
            · rw [hb] at hR
              split at hR
              · cases hR
              · rename_i z hz
                simp only [Option.some.injEq] at hR; subst hR
                exact (P_bad _ _ _ _ hz : z.bad = true)
        · rw [if_neg h7, if_neg (by omega)] at hR
          cases hy : P F (.lv (n + 1)) L false with
          | none => rw [hy] at hR; cases hR
          | some y =>
            obtain rfl := P_one hx hy
            rw [hy] at hR
            simp only at hR
            rw [hb] at hR
            exact P_bad _ _ _ _ hR
theorem up_good {L : List ByteArray} (hun : take unOps L = none) {n f F : Nat} {x R : Res} {T : Tree} (hn : n ≤ 7) (hx : P f (.lv (n + 1)) L false = some x) (hg : x = ⟨T, [], false⟩) (hR : P F (.lv n) L false = some R) : R = ⟨T, [], false⟩ := by
  subst hg
  cases F with
  | zero => simp [P] at hR
  | succ F =>
    rw [P] at hR
    by_cases h2 : n = 2
    · subst h2
      rw [if_pos rfl] at hR
      cases hy : P F (.lv 3) L false with
      | none => rw [hy] at hR; cases hR
      | some y =>
        obtain rfl := P_one hx hy
        rw [hy] at hR
        simp only [take, Option.some.injEq] at hR
        exact hR.symm
    · rw [if_neg h2] at hR
      by_cases h6 : n = 6
      · subst h6
        rw [if_pos rfl, hun] at hR
        exact (P_one hx hR).symm
      · rw [if_neg h6] at hR
        by_cases h7 : n = 7
        · subst h7
          rw [if_pos rfl] at hR
          cases hy : P F (.lv 8) L false with
          | none => rw [hy] at hR; cases hR
          | some y =>
            obtain rfl := P_one hx hy
            rw [hy] at hR
            simp only [take, Option.some.injEq] at hR
            exact hR.symm
        · rw [if_neg h7, if_neg (by omega)] at hR
          cases hy : P F (.lv (n + 1)) L false with
          | none => rw [hy] at hR; cases hR
          | some y =>
            obtain rfl := P_one hx hy
            rw [hy] at hR
            simp only at hR
            cases F with
            | zero => simp [P] at hR
            | succ F =>
              rw [P] at hR
              simp only [take, Option.some.injEq] at hR
              exact hR.symm
/-- from the primaries up to the whole -/
theorem climb {L : List ByteArray} {Q : Res → Prop} (hQ : ∀ (n f F : Nat) (x R : Res), n ≤ 7 → P f (.lv (n + 1)) L false = some x → Q x → P F (.lv n) L false = some R → Q R) {f : Nat} {x : Res} (hx : P f (.lv 8) L false = some x) (h : Q x) :
    ∀ k, k ≤ 8 → ∃ f x, P f (.lv (8 - k)) L false = some x ∧ Q x := by
  intro k
  induction k with
  | zero => intro _; exact ⟨f, x, hx, h⟩
  | succ k ih =>
    intro hk
    obtain ⟨f, x, hx, h⟩ := ih (by omega)
    obtain ⟨F, R, hR, -⟩ := (P_total L.length).1 (k + 1) L false hk (Nat.le_refl _)
    rw [show 8 - k = (8 - (k + 1)) + 1 by omega] at hx
    exact ⟨F, R, hR, hQ _ _ _ _ _ (by omega) hx h hR⟩
/-- the list in parentheses -/
theorem par_read {ts : List ByteArray} (hB : Bal ts) {f : Nat} {x : Res} (hx : P f (.lv 0) ts false = some x) :
    (x.bad = false → x.rest = [] → ∃ F, P F (.lv 0) (⟨#[40]⟩ :: (ts ++ [⟨#[41]⟩])) false = some ⟨.un ⟨#[40]⟩ x.T, [], false⟩)
    ∧ (¬ (x.bad = false ∧ x.rest = []) → ∃ F R, P F (.lv 0) (⟨#[40]⟩ :: (ts ++ [⟨#[41]⟩])) false = some R ∧ R.bad = true) := by
  have hun : take unOps (⟨#[40]⟩ :: (ts ++ [⟨#[41]⟩])) = none := by
    have : mem ⟨#[40]⟩ unOps = false := by decide
    simp [take, this]
  have h8 : P (f + 1) (.lv 8) (⟨#[40]⟩ :: (ts ++ [⟨#[41]⟩])) false = some (close x.end) := by
    have hp : prim (⟨#[40]⟩ :: (ts ++ [⟨#[41]⟩])) false = some (ts ++ [⟨#[41]⟩]) := by
      have : mem ⟨#[40]⟩ opn = true := by decide
      simp [prim, take, this]
    rw [P, if_neg (by decide), if_neg (by decide), if_neg (by decide), if_pos rfl, if_neg (by simp [dig1, Num.isD]), hp]
    simp only
    rw [P_end f _ _ _ _ hx (.inr (by rw [hB.1]; exact Int.le_refl _))]
  constructor
  · intro hb hr
    have hc : close x.end = ⟨.un ⟨#[40]⟩ x.T, [], false⟩ := by
      have : mem ⟨#[41]⟩ cls = true := by decide
      unfold close Res.end
      simp only [hb, hr, Bool.false_eq_true, if_false, List.nil_append, take, this, if_true]
    rw [hc] at h8
    obtain ⟨F, R, hR, e⟩ := climb (Q := fun y => y = ⟨.un ⟨#[40]⟩ x.T, [], false⟩) (fun n f F y R hn hy hq hR => up_good hun hn hy hq hR) h8 rfl 8 (Nat.le_refl _)
    exact ⟨F, by rw [← e]; exact hR⟩
  · intro hno
    have hc : (close x.end).bad = true := by
      unfold close Res.end
      cases hb : x.bad with
      | true => rfl
      | false =>
        cases hr : x.rest with
        | nil => exact absurd ⟨hb, hr⟩ hno
        | cons t v =>
          have e1 := P_exc f _ _ _ _ hx hb
          obtain ⟨p, hp⟩ := P_suf f _ _ _ _ hx
          rw [hr] at hp e1
          have ht : ¬ t = ⟨#[41]⟩ := by
            rintro rfl
            have e2 : exc p = 0 := by
              have := congrArg exc hp
              rw [exc_app] at this
              omega
            have := hB.2 (p ++ [⟨#[41]⟩]) v (by rw [hp]; simp)
            rw [exc_app, e2] at this
            have e3 : exc [(⟨#[41]⟩ : ByteArray)] = 1 := by decide
            omega
          have hm : mem t cls = false := by
            rw [← Bool.not_eq_true, mem_iff]
            simpa [cls] using ht
          simp only [Bool.false_eq_true, if_false, List.cons_append, take, hm]
    obtain ⟨F, R, hR, e⟩ := climb (Q := fun y => y.bad = true) (fun n f F y R hn hy hq hR => up_bad hun hn hy hq hR) h8 hc 8 (Nat.le_refl _)
    exact ⟨F, R, hR, e⟩
end Form
end Go.Proofs.YtlkfnpmcihfjmaaDoor

namespace Go.Proofs.YtlkfnpmcihfjmaaDoor
set_option linter.unusedVariables false
namespace Form

/-- the reading of tokens, with as many steps as it takes -/
def E (j : Job) (ts : List ByteArray) (r : Res) : Prop := ∃ f, P f j ts false = some r
theorem E.two {j k : Job} {ts us : List ByteArray} {r s : Res} (h : E j ts r) (h' : E k us s) : ∃ f, P f j ts false = some r ∧ P f k us false = some s := by
  obtain ⟨f, hf⟩ := h
  obtain ⟨g, hg⟩ := h'
  exact ⟨max f g, P_le (Nat.le_max_left _ _) hf, P_le (Nat.le_max_right _ _) hg⟩
theorem E_loop_stop {n : Nat} {a : Tree} {ts : List ByteArray} (h : take (ops n) ts = none) : E (.loop n a) ts ⟨a, ts, false⟩ := ⟨1, by rw [P, h]⟩
theorem E_loop_step {n : Nat} {a b : Tree} {op : ByteArray} {ts us vs : List ByteArray} {r : Res} (h : take (ops n) ts = some (op, us)) (h1 : E (.lv (n + 1)) us ⟨b, vs, false⟩) (h2 : E (.loop n (.bin op a b)) vs r) : E (.loop n a) ts r := by
  obtain ⟨f, hf, hg⟩ := h1.two h2
  refine ⟨f + 1, ?_⟩
  rw [P, h]
  simp only [Bool.false_eq_true, if_false, hf]
  exact hg
theorem E_lv {n : Nat} {a : Tree} {ts us : List ByteArray} {r : Res} (hn : n ≠ 2 ∧ n ≠ 6 ∧ n ≠ 7 ∧ n ≠ 8) (h1 : E (.lv (n + 1)) ts ⟨a, us, false⟩) (h2 : E (.loop n a) us r) : E (.lv n) ts r := by
  obtain ⟨f, hf, hg⟩ := h1.two h2
  refine ⟨f + 1, ?_⟩
  rw [P, if_neg hn.1, if_neg hn.2.1, if_neg hn.2.2.1, if_neg hn.2.2.2, hf]
  exact hg
theorem E_cmp_stop {a : Tree} {ts us : List ByteArray} (h1 : E (.lv 3) ts ⟨a, us, false⟩) (h : take cmpOps us = none) : E (.lv 2) ts ⟨a, us, false⟩ := by
  obtain ⟨f, hf⟩ := h1
  exact ⟨f + 1, by rw [P, if_pos rfl, hf]; simp only [h]⟩
theorem E_cmp {a b : Tree} {op : ByteArray} {ts us vs ws : List ByteArray} (h1 : E (.lv 3) ts ⟨a, us, false⟩) (h : take cmpOps us = some (op, vs)) (h2 : E (.lv 3) vs ⟨b, ws, false⟩) : E (.lv 2) ts ⟨.bin op a b, ws, false⟩ := by
  obtain ⟨f, hf, hg⟩ := h1.two h2
  exact ⟨f + 1, by rw [P, if_pos rfl, hf]; simp only [h, hg]⟩
theorem E_un_stop {ts : List ByteArray} {r : Res} (h : take unOps ts = none) (h1 : E (.lv 7) ts r) : E (.lv 6) ts r := by
  obtain ⟨f, hf⟩ := h1
  exact ⟨f + 1, by rw [P, if_neg (by decide), if_pos rfl, h]; exact hf⟩
theorem E_un {a : Tree} {op : ByteArray} {ts us vs : List ByteArray} (h : take unOps ts = some (op, us)) (h1 : E (.lv 6) us ⟨a, vs, false⟩) : E (.lv 6) ts ⟨.un op a, vs, false⟩ := by
  obtain ⟨f, hf⟩ := h1
  exact ⟨f + 1, by rw [P, if_neg (by decide), if_pos rfl, h]; simp only [hf]⟩
theorem E_pow_stop {a : Tree} {ts us : List ByteArray} (h1 : E (.lv 8) ts ⟨a, us, false⟩) (h : take hat us = none) : E (.lv 7) ts ⟨a, us, false⟩ := by
  obtain ⟨f, hf⟩ := h1
  exact ⟨f + 1, by rw [P, if_neg (by decide), if_neg (by decide), if_pos rfl, hf]; simp only [h]⟩
theorem E_pow {a b : Tree} {op : ByteArray} {ts us vs ws : List ByteArray} (h1 : E (.lv 8) ts ⟨a, us, false⟩) (h : take hat us = some (op, vs)) (h2 : E (.lv 6) vs ⟨b, ws, false⟩) : E (.lv 7) ts ⟨.bin ⟨#[94]⟩ a b, ws, false⟩ := by
  obtain ⟨f, hf, hg⟩ := h1.two h2
  exact ⟨f + 1, by rw [P, if_neg (by decide), if_neg (by decide), if_pos rfl, hf]; simp only [h, hg]⟩
theorem E_num {t : ByteArray} {us : List ByteArray} (h : dig1 t = true) : E (.lv 8) (t :: us) ⟨.num t, us, false⟩ :=
  ⟨1, by rw [P, if_neg (by decide), if_neg (by decide), if_neg (by decide), if_pos rfl]; simp [h]⟩
theorem E_par {a : Tree} {us vs : List ByteArray} (h : E (.lv 0) us ⟨a, ⟨#[41]⟩ :: vs, false⟩) : E (.lv 8) (⟨#[40]⟩ :: us) ⟨.un ⟨#[40]⟩ a, vs, false⟩ := by
  obtain ⟨f, hf⟩ := h
  refine ⟨f + 1, ?_⟩
  have e1 : ((⟨#[40]⟩ :: us : List ByteArray).head?.map dig1).getD false = false := show dig1 ⟨#[40]⟩ = false by decide
  have e2 : prim (⟨#[40]⟩ :: us) false = some us := by
    have : mem ⟨#[40]⟩ opn = true := by decide
    simp [prim, take, this]
  have e3 : mem ⟨#[41]⟩ cls = true := by decide
  rw [P, if_neg (by decide), if_neg (by decide), if_neg (by decide), if_pos rfl, if_neg (by rw [e1]; decide), e2]
  simp only [hf]
  simp [close, take, e3]

/-! ### tokens that stand behind an operand -/
/-- what may follow an operand of a level: nothing that the level, or a tighter one, would take -/
def stop (n : Nat) (ts : List ByteArray) : Bool :=
  (take hat ts).isNone && (n > 5 || (take (ops 5) ts).isNone) && (n > 4 || (take (ops 4) ts).isNone) && (n > 3 || (take (ops 3) ts).isNone) && (n > 2 || (take cmpOps ts).isNone)
    && (n > 1 || (take (ops 1) ts).isNone) && (n > 0 || (take (ops 0) ts).isNone)
theorem stop_iff {n : Nat} {ts : List ByteArray} : stop n ts = true ↔ take hat ts = none ∧ (n ≤ 5 → take (ops 5) ts = none) ∧ (n ≤ 4 → take (ops 4) ts = none) ∧ (n ≤ 3 → take (ops 3) ts = none) ∧ (n ≤ 2 → take cmpOps ts = none) ∧ (n ≤ 1 → take (ops 1) ts = none) ∧ (n ≤ 0 → take (ops 0) ts = none) := by
  simp only [stop, Bool.and_eq_true, Bool.or_eq_true, Option.isNone_iff_eq_none, decide_eq_true_eq]
  grind
theorem stop_mono {n m : Nat} {ts : List ByteArray} (h : stop n ts = true) (hm : n ≤ m) : stop m ts = true := by
  rw [stop_iff] at h ⊢
  obtain ⟨a, b, c, d, e, f, g⟩ := h
  exact ⟨a, fun k => b (by omega), fun k => c (by omega), fun k => d (by omega), fun k => e (by omega), fun k => f (by omega), fun k => g (by omega)⟩
/-- these tokens are an operand of level n: read, they are this tree -/
def Rd (n : Nat) (X : List ByteArray) (T : Tree) : Prop := ∀ rest, stop n rest = true → E (.lv n) (X ++ rest) ⟨T, rest, false⟩
/-- these tokens are a primary -/
def Pr (X : List ByteArray) (T : Tree) : Prop := ∀ rest, E (.lv 8) (X ++ rest) ⟨T, rest, false⟩
/-- these tokens are a chain of level n -/
def Ch (n : Nat) (X : List ByteArray) (T : Tree) : Prop := ∀ rest r, stop (n + 1) rest = true → E (.loop n T) rest r → E (.lv n) (X ++ rest) r
theorem Ch.one {n : Nat} {X : List ByteArray} {T : Tree} (hn : n ≠ 2 ∧ n ≠ 6 ∧ n ≠ 7 ∧ n ≠ 8) (h : Rd (n + 1) X T) : Ch n X T := fun rest r hs hr => E_lv hn (h rest hs) hr
theorem Ch.bin {n : Nat} {X Y : List ByteArray} {T U : Tree} {op : ByteArray} (h : Ch n X T) (hop : mem op (ops n) = true) (hst : ∀ ts, stop (n + 1) (op :: ts) = true) (k : Rd (n + 1) Y U) : Ch n (X ++ op :: Y) (.bin op T U) := by
  intro rest r hs hr
  rw [List.append_assoc, List.cons_append]
  refine h (op :: (Y ++ rest)) r (hst _) ?_
  refine E_loop_step (op := op) (us := Y ++ rest) ?_ (k rest hs) hr
  rw [take, if_pos hop]
theorem Ch.stop {n : Nat} {X : List ByteArray} {T : Tree} (hn : n = 0 ∨ n = 1 ∨ n = 3 ∨ n = 4 ∨ n = 5) (h : Ch n X T) : Rd n X T := by
  intro rest hs
  refine h rest _ (stop_mono hs (by omega)) (E_loop_stop ?_)
  obtain ⟨a, b, c, d, e, f, g⟩ := stop_iff.1 hs
  rcases hn with rfl | rfl | rfl | rfl | rfl
  · exact g (by omega)
  · exact f (by omega)
  · exact d (by omega)
  · exact c (by omega)
  · exact b (by omega)
/-- an operand of one level is one of the next looser level -/
theorem Rd.up2 {X : List ByteArray} {T : Tree} (h : Rd 3 X T) : Rd 2 X T := fun rest hs => E_cmp_stop (h rest (stop_mono hs (by omega))) ((stop_iff.1 hs).2.2.2.2.1 (by omega))
theorem Pr.up7 {X : List ByteArray} {T : Tree} (h : Pr X T) : Rd 7 X T := fun rest hs => E_pow_stop (h rest) (stop_iff.1 hs).1
/-- it begins with no sign, no word of one operand -/
def Plain (X : List ByteArray) : Prop := ∃ t r, X = t :: r ∧ mem t unOps = false
theorem Rd.up6 {X : List ByteArray} {T : Tree} (hX : Plain X) (h : Rd 7 X T) : Rd 6 X T := by
  obtain ⟨t, r, rfl, hm⟩ := hX
  intro rest hs
  refine E_un_stop ?_ (h rest (stop_mono hs (by omega)))
  rw [List.cons_append, take, if_neg (by rw [hm]; decide)]
theorem Rd.up1 {n : Nat} {X : List ByteArray} {T : Tree} (hn : n = 0 ∨ n = 1 ∨ n = 3 ∨ n = 4 ∨ n = 5) (h : Rd (n + 1) X T) : Rd n X T := (Ch.one (by omega) h).stop hn
/-- an operand of the tightest level serves everywhere -/
theorem Rd.all {X : List ByteArray} {T : Tree} (hX : Plain X) (h : Rd 7 X T) : Rd 0 X T ∧ Rd 1 X T ∧ Rd 2 X T ∧ Rd 3 X T ∧ Rd 4 X T ∧ Rd 5 X T ∧ Rd 6 X T := by
  have h6 := h.up6 hX
  have h5 := Rd.up1 (n := 5) (by omega) h6
  have h4 := Rd.up1 (n := 4) (by omega) h5
  have h3 := Rd.up1 (n := 3) (by omega) h4
  have h2 := h3.up2
  have h1 := Rd.up1 (n := 1) (by omega) h2
  exact ⟨Rd.up1 (n := 0) (by omega) h1, h1, h2, h3, h4, h5, h6⟩
theorem Rd.un {X : List ByteArray} {T : Tree} {op : ByteArray} (hop : mem op unOps = true) (h : Rd 6 X T) : Rd 6 (op :: X) (.un op T) := by
  intro rest hs
  rw [List.cons_append]
  exact E_un (by rw [take, if_pos hop]) (h rest hs)
theorem Pr.pow {X Y : List ByteArray} {T U : Tree} (h : Pr X T) (k : Rd 6 Y U) : Rd 7 (X ++ ⟨#[94]⟩ :: Y) (.bin ⟨#[94]⟩ T U) := by
  intro rest hs
  rw [List.append_assoc, List.cons_append]
  exact E_pow (op := ⟨#[94]⟩) (h _) (by rw [take, if_pos (by decide)]) (k rest (stop_iff.2 ⟨(stop_iff.1 hs).1, fun h => by omega, fun h => by omega, fun h => by omega, fun h => by omega, fun h => by omega, fun h => by omega⟩))
theorem Rd.cmp {X Y : List ByteArray} {T U : Tree} {op : ByteArray} (hop : mem op cmpOps = true) (hst : ∀ ts, Form.stop 3 (op :: ts) = true) (h : Rd 3 X T) (k : Rd 3 Y U) : Rd 2 (X ++ op :: Y) (.bin op T U) := by
  intro rest hs
  rw [List.append_assoc, List.cons_append]
  exact E_cmp (h _ (hst _)) (by rw [take, if_pos hop]) (k rest (stop_mono hs (by omega)))
theorem Rd.par {X : List ByteArray} {T : Tree} (h : Rd 0 X T) : Pr (⟨#[40]⟩ :: X ++ [⟨#[41]⟩]) (.un ⟨#[40]⟩ T) := by
  intro rest
  have e : (⟨#[40]⟩ :: X ++ [⟨#[41]⟩]) ++ rest = ⟨#[40]⟩ :: (X ++ ⟨#[41]⟩ :: rest) := by simp
  rw [e]
  refine E_par (h _ ?_)
  have c : ∀ l : List ByteArray, mem ⟨#[41]⟩ l = false → take l (⟨#[41]⟩ :: rest) = none := fun l hl => by rw [take, if_neg (by rw [hl]; decide)]
  rw [stop_iff]
  exact ⟨c _ (by decide), fun _ => c _ (by decide), fun _ => c _ (by decide), fun _ => c _ (by decide), fun _ => c _ (by decide), fun _ => c _ (by decide), fun _ => c _ (by decide)⟩
theorem Pr.num {t : ByteArray} (h : dig1 t = true) : Pr [t] (.num t) := fun rest => E_num h
theorem plain_num {t : ByteArray} (h : dig1 t = true) : Plain [t] := by
  refine ⟨t, [], rfl, ?_⟩
  cases hm : mem t unOps with
  | false => rfl
  | true =>
    have := mem_iff.1 hm
    simp only [unOps, List.mem_cons, List.not_mem_nil, or_false] at this
    rcases this with rfl | rfl | rfl | rfl <;> revert h <;> decide
theorem plain_par (X : List ByteArray) : Plain (⟨#[40]⟩ :: X) := ⟨_, _, rfl, by decide⟩
/-- the whole is read -/
theorem Rd.whole {X : List ByteArray} {T : Tree} (h : Rd 0 X T) : ∃ f, P f (.lv 0) X false = some ⟨T, [], false⟩ := by
  have := h [] (by decide)
  rw [List.append_nil] at this
  exact this
end Form
end Go.Proofs.YtlkfnpmcihfjmaaDoor

namespace Go.Proofs.YtlkfnpmcihfjmaaDoor
set_option linter.unusedVariables false
namespace Form

/-- a text that is put ahead of another adds these tokens -/
def Adds (a : List UInt8) (X : List ByteArray) (ok : List UInt8 → Prop) : Prop := ∀ l, ok l → tokens (a ++ l) = (tokens l).map (X ++ ·)
/-- what does not go on a number -/
def NoDig1 (l : List UInt8) : Prop := ∀ c r, l = c :: r → Num.isD c = false ∧ c ≠ 46
theorem leadR_dig (l : List UInt8) : leadR 48 57 l = Num.lead l := by
  induction l with
  | nil => rfl
  | cons c r ih =>
    unfold leadR Num.lead
    have e : (48 ≤ c ∧ c ≤ 57) ↔ Num.isD c = true := by
      rw [Num.isD_iff, UInt8.le_iff_toNat_le, UInt8.le_iff_toNat_le]
      exact Iff.rfl
    by_cases h : Num.isD c = true
    · rw [if_pos (e.2 h), if_pos h, ih]
    · rw [if_neg (fun h2 => h (e.1 h2)), if_neg h]
theorem lead_stop {a l : List UInt8} (ha : ∀ c ∈ a, Num.isD c = true) (hl : NoDig1 l) : Num.lead (a ++ l) = a.length := by
  rw [Num.lead_app ha]
  cases l with
  | nil => rfl
  | cons c r => rw [Num.lead, if_neg (by rw [(hl c r rfl).1]; decide)]; omega
theorem next_num {a l : List UInt8} (ha : ∀ c ∈ a, Num.isD c = true) (h1 : a ≠ []) (h9 : a.length ≤ 9) (hl : NoDig1 l) : next (a ++ l) = a.length := by
  have hp : 0 < a.length := List.length_pos_iff.2 h1
  unfold next
  simp only [leadR_dig, lead_stop ha hl]
  rw [if_pos hp, if_neg (by omega), if_neg]
  rw [List.drop_left]
  cases l with
  | nil => simp
  | cons c r => simp only [List.head?_cons, Option.some.injEq]; exact (hl c r rfl).2
theorem blank_dig {c : UInt8} (h : Num.isD c = true) : blank c = false := by
  have := Num.isD_iff.1 h
  unfold blank
  simp only [Bool.or_eq_false_iff, beq_eq_false_iff_ne, ne_eq, ← UInt8.toNat_inj]
  have e1 : (32 : UInt8).toNat = 32 := rfl
  have e2 : (9 : UInt8).toNat = 9 := rfl
  have e3 : (10 : UInt8).toNat = 10 := rfl
  omega
theorem adds_num {a : List UInt8} (ha : ∀ c ∈ a, Num.isD c = true) (h1 : a ≠ []) (h9 : a.length ≤ 9) : Adds a [⟨a.toArray⟩] NoDig1 := by
  intro l hl
  have hn := next_num ha h1 h9 hl
  have hp : 0 < a.length := List.length_pos_iff.2 h1
  cases a with
  | nil => exact absurd rfl h1
  | cons c r =>
    have hb := blank_dig (ha c (by simp))
    rw [List.cons_append] at hn ⊢
    rw [tokens_some hb (by rw [hn]; omega), hn, ← List.cons_append, List.drop_left, List.take_left]
    simp
/-- texts of one token that is no number: what follows is free, or must not go on it -/
theorem adds_of {a : List UInt8} {ok : List UInt8 → Prop} (h1 : a ≠ []) (hb : ∀ c, a.head? = some c → blank c = false) (hn : ∀ l, ok l → next (a ++ l) = a.length) : Adds a [⟨a.toArray⟩] ok := by
  intro l hl
  have hn := hn l hl
  have hp : 0 < a.length := List.length_pos_iff.2 h1
  cases a with
  | nil => exact absurd rfl h1
  | cons c r =>
    have hb := hb c rfl
    rw [List.cons_append] at hn ⊢
    rw [tokens_some hb (by rw [hn]; omega), hn, ← List.cons_append, List.drop_left, List.take_left]
    simp
theorem adds_blank {c : UInt8} (h : blank c = true) : Adds [c] [] (fun _ => True) := by
  intro l _
  rw [List.singleton_append, tokens_blank h]
  cases tokens l <;> simp
theorem Adds.app {a b : List UInt8} {X Y : List ByteArray} {p q : List UInt8 → Prop} (h : Adds a X p) (k : Adds b Y q) (hpq : ∀ l, q l → p (b ++ l)) : Adds (a ++ b) (X ++ Y) q := by
  intro l hl
  rw [List.append_assoc, h _ (hpq l hl), k l hl]
  cases tokens l <;> simp
theorem Adds.weak {a : List UInt8} {X : List ByteArray} {p q : List UInt8 → Prop} (h : Adds a X p) (hpq : ∀ l, q l → p l) : Adds a X q := fun l hl => h l (hpq l hl)
theorem Adds.whole {a : List UInt8} {X : List ByteArray} {p : List UInt8 → Prop} (h : Adds a X p) (hp : p []) : tokens a = some X := by
  have := h [] hp
  rw [List.append_nil, tokens_nil] at this
  simpa using this
/-- a sign of one byte, whatever follows -/
theorem adds_one {c : UInt8} (h1 : Num.isD c = false) (h2 : ¬ (97 ≤ c ∧ c ≤ 122)) (h3 : c ≠ 60 ∧ c ≠ 62) (h4 : c ∈ singles) (h5 : blank c = false) : Adds [c] [⟨#[c]⟩] (fun _ => True) := by
  refine adds_of (by simp) (fun d hd => by simp at hd; rw [← hd]; exact h5) (fun l _ => ?_)
  unfold next
  have e1 : leadR 48 57 ([c] ++ l) = 0 := by rw [leadR_dig, List.singleton_append, Num.lead, if_neg (by rw [h1]; decide)]
  have e2 : leadR 97 122 ([c] ++ l) = 0 := by rw [List.singleton_append, leadR, if_neg h2]
  simp only [e1, e2]
  rw [if_neg (by omega), if_neg (by omega), if_neg, if_pos (by simpa using h4)]
  · rfl
  · intro hm
    simp only [pairs, List.mem_cons, List.not_mem_nil, or_false] at hm
    cases l <;> simp at hm <;> grind
/-- "<" or ">" ahead of something that does not go on it -/
theorem adds_lt {c : UInt8} (h3 : c = 60 ∨ c = 62) : Adds [c] [⟨#[c]⟩] (fun l => ∀ d r, l = d :: r → d ≠ 61 ∧ d ≠ 62) := by
  refine adds_of (by simp) (fun d hd => by simp at hd; rw [← hd]; rcases h3 with rfl | rfl <;> decide) (fun l hl => ?_)
  unfold next
  have e1 : leadR 48 57 ([c] ++ l) = 0 := by rw [leadR_dig, List.singleton_append, Num.lead, if_neg (by rcases h3 with rfl | rfl <;> decide)]
  have e2 : leadR 97 122 ([c] ++ l) = 0 := by rw [List.singleton_append, leadR, if_neg (by rcases h3 with rfl | rfl <;> decide)]
  simp only [e1, e2]
  rw [if_neg (by omega), if_neg (by omega), if_neg, if_pos (by rcases h3 with rfl | rfl <;> simp [singles])]
  · rfl
  · intro hm
    simp only [pairs, List.mem_cons, List.not_mem_nil, or_false] at hm
    cases l with
    | nil => simp at hm
    | cons d r =>
      obtain ⟨h1, h2⟩ := hl d r rfl
      simp at hm
      grind
theorem adds_pair {c d : UInt8} (h : [c, d] ∈ pairs) : Adds [c, d] [⟨#[c, d]⟩] (fun _ => True) := by
  have h3 : c = 60 ∨ c = 62 := by
    simp only [pairs, List.mem_cons, List.not_mem_nil, or_false] at h
    grind
  refine adds_of (by simp) (fun e he => by simp at he; rw [← he]; rcases h3 with rfl | rfl <;> decide) (fun l _ => ?_)
  unfold next
  have e1 : leadR 48 57 ([c, d] ++ l) = 0 := by rw [leadR_dig, List.cons_append, Num.lead, if_neg (by rcases h3 with rfl | rfl <;> decide)]
  have e2 : leadR 97 122 ([c, d] ++ l) = 0 := by rw [List.cons_append, leadR, if_neg (by rcases h3 with rfl | rfl <;> decide)]
  simp only [e1, e2]
  rw [if_neg (by omega), if_neg (by omega), if_pos (by simpa using h)]
  rfl
/-- a word ahead of something that is no letter -/
theorem adds_word {a : List UInt8} (h : a ∈ words) : Adds a [⟨a.toArray⟩] (fun l => ∀ d r, l = d :: r → ¬ (97 ≤ d ∧ d ≤ 122)) := by
  have hx : leadR 97 122 a = a.length ∧ leadR 48 57 a = 0 ∧ a ≠ [] ∧ ∀ c, a.head? = some c → blank c = false ∧ Num.isD c = false := by
    simp only [words, List.mem_cons, List.not_mem_nil, or_false] at h
    rcases h with rfl | rfl | rfl | rfl | rfl | rfl <;> exact ⟨by decide, by decide, by decide, by intro c hc; simp at hc; subst hc; decide⟩
  obtain ⟨x1, x2, x3, x4⟩ := hx
  refine adds_of x3 (fun c hc => (x4 c hc).1) (fun l hl => ?_)
  have app : ∀ b : List UInt8, leadR 97 122 b = b.length → leadR 97 122 (b ++ l) = b.length := by
    intro b
    induction b with
    | nil =>
      intro _
      cases l with
      | nil => rfl
      | cons d r => rw [List.nil_append, leadR, if_neg (hl d r rfl)]; rfl
    | cons c r ih =>
      intro hb
      unfold leadR at hb
      split at hb
      · rename_i hc
        rw [List.cons_append, leadR, if_pos hc, ih (by simpa using hb)]
        rfl
      · simp at hb
  have e1 : leadR 48 57 (a ++ l) = 0 := by
    cases a with
    | nil => exact absurd rfl x3
    | cons c r => rw [leadR_dig, List.cons_append, Num.lead, if_neg (by rw [(x4 c rfl).2]; decide)]
  have hp : 0 < a.length := List.length_pos_iff.2 x3
  unfold next
  simp only [e1, app a x1]
  rw [if_neg (by omega), if_pos hp, List.take_left, if_pos h]
end Form
end Go.Proofs.YtlkfnpmcihfjmaaDoor
