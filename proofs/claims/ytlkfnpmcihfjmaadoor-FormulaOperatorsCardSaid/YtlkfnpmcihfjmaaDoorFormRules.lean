/-
  Formulas in plain mathematics: rules by which texts are divided and tokens are read. No program in sight. No conditions but those typed in each theorem.
-/
import Derived.Test.YtlkfnpmcihfjmaaDoorFormScan
namespace Go.Proofs.YtlkfnpmcihfjmaaDoor
set_option linter.unusedVariables false
namespace Form

/-- the reading of tokens, with as many steps as it takes -/
def E (j : Job) (ts : List ByteArray) (r : Res) : Prop := ∃ f, P f j ts false = some r
theorem E.two {j k : Job} {ts us : List ByteArray} {r s : Res} (h : E j ts r) (h' : E k us s) : ∃ f, P f j ts false = some r ∧ P f k us false = some s := by
  obtain ⟨f, hf⟩ := h
  obtain ⟨g, hg⟩ := h'
  exact ⟨max f g, P_le (Nat.le_max_left _ _) hf, P_le (Nat.le_max_right _ _) hg⟩
theorem E_loop_stop {n : Nat} {a : Tree} {ts : List ByteArray} (h : take (ops n) ts = none) : E (.loop n a) ts ⟨a, ts, false⟩ := ⟨1, by rw [P, h]⟩
theorem E_loop_step {n : Nat} {a b : Tree} {op : ByteArray} {ts us vs : List ByteArray} {r : Res} (h : take (ops n) ts = some (op, us)) (h1 : E (.lv (n + 1)) us ⟨b, vs, false⟩) (h2 : E (.loop n (.bin op a b)) vs r) : E (.loop n a) ts r := by
  obtain ⟨f, hf, hg⟩ := h1.two h2
  refine ⟨f + 1, ?_⟩
  rw [P, h]
  simp only [Bool.false_eq_true, if_false, hf]
  exact hg
theorem E_lv {n : Nat} {a : Tree} {ts us : List ByteArray} {r : Res} (hn : n ≠ 2 ∧ n ≠ 6 ∧ n ≠ 7 ∧ n ≠ 8) (h1 : E (.lv (n + 1)) ts ⟨a, us, false⟩) (h2 : E (.loop n a) us r) : E (.lv n) ts r := by
  obtain ⟨f, hf, hg⟩ := h1.two h2
  refine ⟨f + 1, ?_⟩
  rw [P, if_neg hn.1, if_neg hn.2.1, if_neg hn.2.2.1, if_neg hn.2.2.2, hf]
  exact hg
theorem E_cmp_stop {a : Tree} {ts us : List ByteArray} (h1 : E (.lv 3) ts ⟨a, us, false⟩) (h : take cmpOps us = none) : E (.lv 2) ts ⟨a, us, false⟩ := by
  obtain ⟨f, hf⟩ := h1
  exact ⟨f + 1, by rw [P, if_pos rfl, hf]; simp only [h]⟩
theorem E_cmp {a b : Tree} {op : ByteArray} {ts us vs ws : List ByteArray} (h1 : E (.lv 3) ts ⟨a, us, false⟩) (h : take cmpOps us = some (op, vs)) (h2 : E (.lv 3) vs ⟨b, ws, false⟩) : E (.lv 2) ts ⟨.bin op a b, ws, false⟩ := by
  obtain ⟨f, hf, hg⟩ := h1.two h2
  exact ⟨f + 1, by rw [P, if_pos rfl, hf]; simp only [h, hg]⟩
theorem E_un_stop {ts : List ByteArray} {r : Res} (h : take unOps ts = none) (h1 : E (.lv 7) ts r) : E (.lv 6) ts r := by
  obtain ⟨f, hf⟩ := h1
  exact ⟨f + 1, by rw [P, if_neg (by decide), if_pos rfl, h]; exact hf⟩
theorem E_un {a : Tree} {op : ByteArray} {ts us vs : List ByteArray} (h : take unOps ts = some (op, us)) (h1 : E (.lv 6) us ⟨a, vs, false⟩) : E (.lv 6) ts ⟨.un op a, vs, false⟩ := by
  obtain ⟨f, hf⟩ := h1
  exact ⟨f + 1, by rw [P, if_neg (by decide), if_pos rfl, h]; simp only [hf]⟩
theorem E_pow_stop {a : Tree} {ts us : List ByteArray} (h1 : E (.lv 8) ts ⟨a, us, false⟩) (h : take hat us = none) : E (.lv 7) ts ⟨a, us, false⟩ := by
  obtain ⟨f, hf⟩ := h1
  exact ⟨f + 1, by rw [P, if_neg (by decide), if_neg (by decide), if_pos rfl, hf]; simp only [h]⟩
theorem E_pow {a b : Tree} {op : ByteArray} {ts us vs ws : List ByteArray} (h1 : E (.lv 8) ts ⟨a, us, false⟩) (h : take hat us = some (op, vs)) (h2 : E (.lv 6) vs ⟨b, ws, false⟩) : E (.lv 7) ts ⟨.bin ⟨#[94]⟩ a b, ws, false⟩ := by
  obtain ⟨f, hf, hg⟩ := h1.two h2
  exact ⟨f + 1, by rw [P, if_neg (by decide), if_neg (by decide), if_pos rfl, hf]; simp only [h, hg]⟩
theorem E_num {t : ByteArray} {us : List ByteArray} (h : dig1 t = true) : E (.lv 8) (t :: us) ⟨.num t, us, false⟩ :=
  ⟨1, by rw [P, if_neg (by decide), if_neg (by decide), if_neg (by decide), if_pos rfl]; simp [h]⟩
theorem E_par {a : Tree} {us vs : List ByteArray} (h : E (.lv 0) us ⟨a, ⟨#[41]⟩ :: vs, false⟩) : E (.lv 8) (⟨#[40]⟩ :: us) ⟨.un ⟨#[40]⟩ a, vs, false⟩ := by
  obtain ⟨f, hf⟩ := h
  refine ⟨f + 1, ?_⟩
  have e1 : ((⟨#[40]⟩ :: us : List ByteArray).head?.map dig1).getD false = false := show dig1 ⟨#[40]⟩ = false by decide
  have e2 : prim (⟨#[40]⟩ :: us) false = some us := by
    have : mem ⟨#[40]⟩ opn = true := by decide
    simp [prim, take, this]
  have e3 : mem ⟨#[41]⟩ cls = true := by decide
  rw [P, if_neg (by decide), if_neg (by decide), if_neg (by decide), if_pos rfl, if_neg (by rw [e1]; decide), e2]
  simp only [hf]
  simp [close, take, e3]

/-! ### tokens that stand behind an operand -/
/-- what may follow an operand of a level: nothing that the level, or a tighter one, would take -/
def stop (n : Nat) (ts : List ByteArray) : Bool :=
  (take hat ts).isNone && (n > 5 || (take (ops 5) ts).isNone) && (n > 4 || (take (ops 4) ts).isNone) && (n > 3 || (take (ops 3) ts).isNone) && (n > 2 || (take cmpOps ts).isNone)
    && (n > 1 || (take (ops 1) ts).isNone) && (n > 0 || (take (ops 0) ts).isNone)
theorem stop_iff {n : Nat} {ts : List ByteArray} : stop n ts = true ↔ take hat ts = none ∧ (n ≤ 5 → take (ops 5) ts = none) ∧ (n ≤ 4 → take (ops 4) ts = none) ∧ (n ≤ 3 → take (ops 3) ts = none) ∧ (n ≤ 2 → take cmpOps ts = none) ∧ (n ≤ 1 → take (ops 1) ts = none) ∧ (n ≤ 0 → take (ops 0) ts = none) := by
  simp only [stop, Bool.and_eq_true, Bool.or_eq_true, Option.isNone_iff_eq_none, decide_eq_true_eq]
  grind
theorem stop_mono {n m : Nat} {ts : List ByteArray} (h : stop n ts = true) (hm : n ≤ m) : stop m ts = true := by
  rw [stop_iff] at h ⊢
  obtain ⟨a, b, c, d, e, f, g⟩ := h
  exact ⟨a, fun k => b (by omega), fun k => c (by omega), fun k => d (by omega), fun k => e (by omega), fun k => f (by omega), fun k => g (by omega)⟩
/-- these tokens are an operand of level n: read, they are this tree -/
def Rd (n : Nat) (X : List ByteArray) (T : Tree) : Prop := ∀ rest, stop n rest = true → E (.lv n) (X ++ rest) ⟨T, rest, false⟩
/-- these tokens are a primary -/
def Pr (X : List ByteArray) (T : Tree) : Prop := ∀ rest, E (.lv 8) (X ++ rest) ⟨T, rest, false⟩
/-- these tokens are a chain of level n -/
def Ch (n : Nat) (X : List ByteArray) (T : Tree) : Prop := ∀ rest r, stop (n + 1) rest = true → E (.loop n T) rest r → E (.lv n) (X ++ rest) r
theorem Ch.one {n : Nat} {X : List ByteArray} {T : Tree} (hn : n ≠ 2 ∧ n ≠ 6 ∧ n ≠ 7 ∧ n ≠ 8) (h : Rd (n + 1) X T) : Ch n X T := fun rest r hs hr => E_lv hn (h rest hs) hr
theorem Ch.bin {n : Nat} {X Y : List ByteArray} {T U : Tree} {op : ByteArray} (h : Ch n X T) (hop : mem op (ops n) = true) (hst : ∀ ts, stop (n + 1) (op :: ts) = true) (k : Rd (n + 1) Y U) : Ch n (X ++ op :: Y) (.bin op T U) := by
  intro rest r hs hr
  rw [List.append_assoc, List.cons_append]
  refine h (op :: (Y ++ rest)) r (hst _) ?_
  refine E_loop_step (op := op) (us := Y ++ rest) ?_ (k rest hs) hr
  rw [take, if_pos hop]
theorem Ch.stop {n : Nat} {X : List ByteArray} {T : Tree} (hn : n = 0 ∨ n = 1 ∨ n = 3 ∨ n = 4 ∨ n = 5) (h : Ch n X T) : Rd n X T := by
  intro rest hs
  refine h rest _ (stop_mono hs (by omega)) (E_loop_stop ?_)
  obtain ⟨a, b, c, d, e, f, g⟩ := stop_iff.1 hs
  rcases hn with rfl | rfl | rfl | rfl | rfl
  · exact g (by omega)
  · exact f (by omega)
  · exact d (by omega)
  · exact c (by omega)
  · exact b (by omega)
/-- an operand of one level is one of the next looser level -/
theorem Rd.up2 {X : List ByteArray} {T : Tree} (h : Rd 3 X T) : Rd 2 X T := fun rest hs => E_cmp_stop (h rest (stop_mono hs (by omega))) ((stop_iff.1 hs).2.2.2.2.1 (by omega))
theorem Pr.up7 {X : List ByteArray} {T : Tree} (h : Pr X T) : Rd 7 X T := fun rest hs => E_pow_stop (h rest) (stop_iff.1 hs).1
/-- it begins with no sign, no word of one operand -/
def Plain (X : List ByteArray) : Prop := ∃ t r, X = t :: r ∧ mem t unOps = false
theorem Rd.up6 {X : List ByteArray} {T : Tree} (hX : Plain X) (h : Rd 7 X T) : Rd 6 X T := by
  obtain ⟨t, r, rfl, hm⟩ := hX
  intro rest hs
  refine E_un_stop ?_ (h rest (stop_mono hs (by omega)))
  rw [List.cons_append, take, if_neg (by rw [hm]; decide)]
theorem Rd.up1 {n : Nat} {X : List ByteArray} {T : Tree} (hn : n = 0 ∨ n = 1 ∨ n = 3 ∨ n = 4 ∨ n = 5) (h : Rd (n + 1) X T) : Rd n X T := (Ch.one (by omega) h).stop hn
/-- an operand of the tightest level serves everywhere -/
theorem Rd.all {X : List ByteArray} {T : Tree} (hX : Plain X) (h : Rd 7 X T) : Rd 0 X T ∧ Rd 1 X T ∧ Rd 2 X T ∧ Rd 3 X T ∧ Rd 4 X T ∧ Rd 5 X T ∧ Rd 6 X T := by
  have h6 := h.up6 hX
  have h5 := Rd.up1 (n := 5) (by omega) h6
  have h4 := Rd.up1 (n := 4) (by omega) h5
  have h3 := Rd.up1 (n := 3) (by omega) h4
  have h2 := h3.up2
  have h1 := Rd.up1 (n := 1) (by omega) h2
  exact ⟨Rd.up1 (n := 0) (by omega) h1, h1, h2, h3, h4, h5, h6⟩
theorem Rd.un {X : List ByteArray} {T : Tree} {op : ByteArray} (hop : mem op unOps = true) (h : Rd 6 X T) : Rd 6 (op :: X) (.un op T) := by
  intro rest hs
  rw [List.cons_append]
  exact E_un (by rw [take, if_pos hop]) (h rest hs)
theorem Pr.pow {X Y : List ByteArray} {T U : Tree} (h : Pr X T) (k : Rd 6 Y U) : Rd 7 (X ++ ⟨#[94]⟩ :: Y) (.bin ⟨#[94]⟩ T U) := by
  intro rest hs
  rw [List.append_assoc, List.cons_append]
  exact E_pow (op := ⟨#[94]⟩) (h _) (by rw [take, if_pos (by decide)]) (k rest (stop_iff.2 ⟨(stop_iff.1 hs).1, fun h => by omega, fun h => by omega, fun h => by omega, fun h => by omega, fun h => by omega, fun h => by omega⟩))
theorem Rd.cmp {X Y : List ByteArray} {T U : Tree} {op : ByteArray} (hop : mem op cmpOps = true) (hst : ∀ ts, Form.stop 3 (op :: ts) = true) (h : Rd 3 X T) (k : Rd 3 Y U) : Rd 2 (X ++ op :: Y) (.bin op T U) := by
  intro rest hs
  rw [List.append_assoc, List.cons_append]
  exact E_cmp (h _ (hst _)) (by rw [take, if_pos hop]) (k rest (stop_mono hs (by omega)))
theorem Rd.par {X : List ByteArray} {T : Tree} (h : Rd 0 X T) : Pr (⟨#[40]⟩ :: X ++ [⟨#[41]⟩]) (.un ⟨#[40]⟩ T) := by
  intro rest
  have e : (⟨#[40]⟩ :: X ++ [⟨#[41]⟩]) ++ rest = ⟨#[40]⟩ :: (X ++ ⟨#[41]⟩ :: rest) := by simp
  rw [e]
  refine E_par (h _ ?_)
  have c : ∀ l : List ByteArray, mem ⟨#[41]⟩ l = false → take l (⟨#[41]⟩ :: rest) = none := fun l hl => by rw [take, if_neg (by rw [hl]; decide)]
  rw [stop_iff]
  exact ⟨c _ (by decide), fun _ => c _ (by decide), fun _ => c _ (by decide), fun _ => c _ (by decide), fun _ => c _ (by decide), fun _ => c _ (by decide), fun _ => c _ (by decide)⟩
theorem Pr.num {t : ByteArray} (h : dig1 t = true) : Pr [t] (.num t) := fun rest => E_num h
theorem plain_num {t : ByteArray} (h : dig1 t = true) : Plain [t] := by
  refine ⟨t, [], rfl, ?_⟩
  cases hm : mem t unOps with
  | false => rfl
  | true =>
    have := mem_iff.1 hm
    simp only [unOps, List.mem_cons, List.not_mem_nil, or_false] at this
    rcases this with rfl | rfl | rfl | rfl <;> revert h <;> decide
theorem plain_par (X : List ByteArray) : Plain (⟨#[40]⟩ :: X) := ⟨_, _, rfl, by decide⟩
/-- the whole is read -/
theorem Rd.whole {X : List ByteArray} {T : Tree} (h : Rd 0 X T) : ∃ f, P f (.lv 0) X false = some ⟨T, [], false⟩ := by
  have := h [] (by decide)
  rw [List.append_nil] at this
  exact this
end Form
end Go.Proofs.YtlkfnpmcihfjmaaDoor
