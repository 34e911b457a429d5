/-
  How operators are grouped, in plain mathematics over the formulas' trees: the pairs of the law FormulaPrecedence have one value each. Conditions: those typed in each theorem.
-/
import Derived.Test.YtlkfnpmcihfjmaaDoorFormLaw3
namespace Go.Proofs.YtlkfnpmcihfjmaaDoor
open Go.RowKit
set_option linter.unusedVariables false

/-- an error goes with the number nought over nought -/
def OkZ (x : Int × Int × Int) : Prop := x.2.2 ≠ 0 → x.1 = 0 ∧ x.2.1 = 0
theorem okz_ite {p : Prop} [Decidable p] {x y : Int × Int × Int} (hx : OkZ x) (hy : OkZ y) : OkZ (if p then x else y) := by
  by_cases h : p
  · rw [if_pos h]; exact hx
  · rw [if_neg h]; exact hy
theorem okz_err (e : Int) : OkZ (0, 0, e) := fun _ => ⟨rfl, rfl⟩
theorem okz_fine (a b : Int) : OkZ (a, b, 0) := fun h => absurd rfl h
theorem okz_red (n m : Int) : OkZ (Num.red n m) := by
  unfold Num.red Num.redN Num.redD Num.redE
  by_cases h : Num.rB n m = true
  · rw [if_pos h, if_pos h, if_pos h]; exact okz_fine _ _
  · rw [if_neg h, if_neg h, if_neg h]; exact okz_err _
theorem okz_op (z : Bool) (n m a b c d : Int) : OkZ (opV z n m a b c d) := by
  unfold opV
  exact okz_ite (okz_ite (okz_err _) (okz_red _ _)) (okz_err _)
theorem okz_pow (a b : Int) (k : Nat) : OkZ (powV a b k) := by
  induction k with
  | zero => exact okz_fine _ _
  | succ k ih =>
    rw [powV]
    simp only
    refine okz_ite (okz_ite ?_ (okz_err _)) ih
    exact okz_op _ _ _ _ _ _ _
theorem okz_apply (op : ByteArray) (a b c d : Int) : OkZ (applyV op a b c d) := by
  unfold applyV
  refine okz_ite (okz_op _ _ _ _ _ _ _) (okz_ite (okz_op _ _ _ _ _ _ _) (okz_ite (okz_op _ _ _ _ _ _ _) (okz_ite (okz_op _ _ _ _ _ _ _) (okz_ite (okz_op _ _ _ _ _ _ _) (okz_ite ?_ (okz_ite ?_ ?_))))))
  · unfold raiseV; exact okz_ite (okz_ite (okz_fine _ _) (okz_pow _ _ _)) (okz_err _)
  · unfold roundsV roundV; exact okz_ite (okz_ite (okz_ite (okz_err _) (okz_red _ _)) (okz_err _)) (okz_err _)
  · exact okz_ite (okz_fine _ _) (okz_ite (okz_fine _ _) (okz_ite (okz_fine _ _) (okz_ite (okz_fine _ _) (okz_ite (okz_fine _ _) (okz_ite (okz_fine _ _) (okz_ite (okz_fine _ _) (okz_fine _ _)))))))
theorem okz_bin {op : ByteArray} {a b : Form.Tree} {r : Int × Int × Int} (h : Val (.bin op a b) r) : OkZ r := by
  cases h with
  | bin hop h k => exact okz_ite (okz_ite (okz_apply _ _ _ _ _) (okz_err _)) (okz_err _)
/-- parentheses do not matter to the value -/
theorem val_par {U : Form.Tree} {s : Int × Int × Int} (h : Val U s) (hz : OkZ s) : Val (.un ⟨#[40]⟩ U) s := by
  have h1 := Val.un (op := ⟨#[40]⟩) (by decide) h
  have e : signV ⟨#[40]⟩ s.1 s.2.1 = (s.1, s.2.1, 0) := by
    unfold signV
    rw [if_neg (by decide), if_neg (by decide), if_neg (by decide)]
  obtain ⟨x, y, z⟩ := s
  by_cases h0 : z = 0
  · subst h0
    rw [if_pos rfl, e] at h1
    exact h1
  · rw [if_neg h0] at h1
    obtain ⟨p, q⟩ := hz h0
    simp only at p q
    rw [p, q]
    exact h1
theorem ne_op {op : ByteArray} (h : Form.mem op (⟨#[]⟩ :: []) = false) : ¬ op = ⟨#[]⟩ := fun e => by rw [e] at h; exact absurd h (by decide)
/-- two operands with one value each: one value -/
theorem bin_both {op : ByteArray} {A A' B B' : Form.Tree} {r s : Int × Int × Int} (hop : Form.mem op (⟨#[]⟩ :: []) = false) (h : Val A r) (h' : Val A' r) (k : Val B s) (k' : Val B' s) : ∃ t, Val (.bin op A B) t ∧ Val (.bin op A' B') t :=
  ⟨_, Val.bin (ne_op hop) h k, Val.bin (ne_op hop) h' k'⟩
theorem bin_ex {op : ByteArray} {A B : Form.Tree} {r s : Int × Int × Int} (hop : Form.mem op (⟨#[]⟩ :: []) = false) (h : Val A r) (k : Val B s) : ∃ t, Val (.bin op A B) t ∧ Val (.un ⟨#[40]⟩ (.bin op A B)) t := by
  have h1 := Val.bin (ne_op hop) h k
  exact ⟨_, h1, val_par h1 (okz_bin h1)⟩
/-- both texts have one value -/
def Both (s t : ByteArray) : Prop := ∃ r, EvalR s r ∧ EvalR t r
theorem both_of {s t : ByteArray} {l m : List UInt8} {X Y : List ByteArray} {T U : Form.Tree} (e : s = ⟨l.toArray⟩) (e' : t = ⟨m.toArray⟩) (ht : Form.Adds l X Form.NoDig1) (ht' : Form.Adds m Y Form.NoDig1) (hr : Form.Rd 0 X T) (hr' : Form.Rd 0 Y U)
    (hd : T.levels ≤ 20) (hd' : U.levels ≤ 20) (hl : l.length ≤ 400) (hl' : m.length ≤ 400) (hv : ∃ r, Val T r ∧ Val U r) : Both s t := by
  obtain ⟨r, v, v'⟩ := hv
  exact ⟨r, eval_of e ht hr hd hl v, eval_of e' ht' hr' hd' hl' v'⟩

/-- a sign of a sum; of a product; of a comparison -/
def SumO (a : List UInt8) : Prop := a = [43] ∨ a = [45]
def TermO (a : List UInt8) : Prop := a = [42] ∨ a = [109, 111, 100] ∨ a = [47]
def CmpO (a : List UInt8) : Prop := a = [61] ∨ a = [60]
theorem sum_mid {a : List UInt8} (h : SumO a) : Form.Adds (32 :: (a ++ [32])) [⟨a.toArray⟩] (fun _ => True) := by rcases h with rfl | rfl <;> exact mid (by simp)
theorem term_mid {a : List UInt8} (h : TermO a) : Form.Adds (32 :: (a ++ [32])) [⟨a.toArray⟩] (fun _ => True) := by
  rcases h with rfl | rfl | rfl
  · exact mid (by simp)
  · exact mid (.inl (by decide))
  · exact mid (by simp)
theorem cmp_mid {a : List UInt8} (h : CmpO a) : Form.Adds (32 :: (a ++ [32])) [⟨a.toArray⟩] (fun _ => True) := by rcases h with rfl | rfl <;> exact mid (by simp)
theorem sum_stop {a : List UInt8} (h : SumO a) (ts : List ByteArray) : Form.stop 4 (⟨a.toArray⟩ :: ts) = true := by
  rcases h with rfl | rfl <;> exact stop_op 4 _ ts (by decide) (fun _ => by decide) (fun _ => by decide) (fun h => by omega) (fun h => by omega) (fun h => by omega) (fun h => by omega)
theorem sum_mem {a : List UInt8} (h : SumO a) : Form.mem ⟨a.toArray⟩ (Form.ops 3) = true := by rcases h with rfl | rfl <;> decide
theorem rd_sum {a : List UInt8} (ha : SumO a) {X Y : List ByteArray} {T U : Form.Tree} (h : Form.Rd 4 X T) (k : Form.Rd 4 Y U) : Form.Rd 3 (X ++ ⟨a.toArray⟩ :: Y) (.bin ⟨a.toArray⟩ T U) :=
  (Form.Ch.bin (n := 3) (Form.Ch.one (by decide) h) (sum_mem ha) (sum_stop ha) k).stop (by omega)
theorem rd_sum3 {a : List UInt8} (ha : SumO a) {X Y Z : List ByteArray} {T U V : Form.Tree} (h : Form.Rd 4 X T) (k : Form.Rd 4 Y U) (j : Form.Rd 4 Z V) : Form.Rd 3 (X ++ ⟨a.toArray⟩ :: Y ++ ⟨a.toArray⟩ :: Z) (.bin ⟨a.toArray⟩ (.bin ⟨a.toArray⟩ T U) V) :=
  (Form.Ch.bin (n := 3) (Form.Ch.bin (n := 3) (Form.Ch.one (by decide) h) (sum_mem ha) (sum_stop ha) k) (sum_mem ha) (sum_stop ha) j).stop (by omega)
theorem rd_term {a : List UInt8} (ha : TermO a) {X Y : List ByteArray} {T U : Form.Tree} (h : Form.Rd 5 X T) (k : Form.Rd 5 Y U) : Form.Rd 4 (X ++ ⟨a.toArray⟩ :: Y) (.bin ⟨a.toArray⟩ T U) := by
  refine (Form.Ch.bin (n := 4) (Form.Ch.one (by decide) h) ?_ (fun ts => ?_) k).stop (by omega)
  · rcases ha with rfl | rfl | rfl <;> decide
  · rcases ha with rfl | rfl | rfl <;> exact stop_op 5 _ ts (by decide) (fun _ => by decide) (fun h => by omega) (fun h => by omega) (fun h => by omega) (fun h => by omega) (fun h => by omega)
theorem rd_cmp2 {a : List UInt8} (ha : CmpO a) {X Y : List ByteArray} {T U : Form.Tree} (h : Form.Rd 3 X T) (k : Form.Rd 3 Y U) : Form.Rd 2 (X ++ ⟨a.toArray⟩ :: Y) (.bin ⟨a.toArray⟩ T U) := by
  rcases ha with rfl | rfl <;> exact Form.Rd.cmp (by decide) (fun ts => stop_op 3 _ ts (by decide) (fun _ => by decide) (fun _ => by decide) (fun _ => by decide) (fun h => by omega) (fun h => by omega) (fun h => by omega)) h k
theorem up2 {X : List ByteArray} {T : Form.Tree} (h : Form.Rd 2 X T) : Form.Rd 0 X T := Form.Rd.up1 (n := 0) (by omega) (Form.Rd.up1 (n := 1) (by omega) h)
theorem up3 {X : List ByteArray} {T : Form.Tree} (h : Form.Rd 3 X T) : Form.Rd 0 X T := up2 h.up2
theorem up4 {X : List ByteArray} {T : Form.Tree} (h : Form.Rd 4 X T) : Form.Rd 0 X T := up3 (Form.Rd.up1 (n := 3) (by omega) h)
theorem op_ne1 {a : List UInt8} (h : SumO a) : Form.mem ⟨a.toArray⟩ (⟨#[]⟩ :: []) = false := by rcases h with rfl | rfl <;> decide
theorem op_ne2 {a : List UInt8} (h : TermO a) : Form.mem ⟨a.toArray⟩ (⟨#[]⟩ :: []) = false := by rcases h with rfl | rfl | rfl <;> decide
theorem op_ne3 {a : List UInt8} (h : CmpO a) : Form.mem ⟨a.toArray⟩ (⟨#[]⟩ :: []) = false := by rcases h with rfl | rfl <;> decide
theorem op_len {a : List UInt8} (h : SumO a ∨ TermO a ∨ CmpO a) : a.length ≤ 3 := by
  unfold SumO TermO CmpO at h
  rcases h with h | h | h
  · rcases h with rfl | rfl <;> decide
  · rcases h with rfl | rfl | rfl <;> decide
  · rcases h with rfl | rfl <;> decide
/-- a text in parentheses, its tokens -/
theorem par_text {l : List UInt8} {X : List ByteArray} (ht : Form.Adds l X Form.NoDig1) : Form.Adds (40 :: (l ++ [41])) (⟨#[40]⟩ :: X ++ [⟨#[41]⟩]) Form.NoDig1 := by
  have o := Form.adds_one (c := 40) (by decide) (by decide) (by decide) (by decide) (by decide)
  have cl := Form.adds_one (c := 41) (by decide) (by decide) (by decide) (by decide) (by decide)
  have t := o.app (ht.app cl (fun l _ => nd_cons (by decide) (by decide))) (fun _ _ => trivial)
  intro r hr
  simpa using t r trivial
theorem par_all {X : List ByteArray} {T : Form.Tree} (h : Form.Rd 0 X T) : Form.Rd 0 (⟨#[40]⟩ :: X ++ [⟨#[41]⟩]) (.un ⟨#[40]⟩ T) ∧ Form.Rd 1 (⟨#[40]⟩ :: X ++ [⟨#[41]⟩]) (.un ⟨#[40]⟩ T) ∧ Form.Rd 2 (⟨#[40]⟩ :: X ++ [⟨#[41]⟩]) (.un ⟨#[40]⟩ T)
    ∧ Form.Rd 3 (⟨#[40]⟩ :: X ++ [⟨#[41]⟩]) (.un ⟨#[40]⟩ T) ∧ Form.Rd 4 (⟨#[40]⟩ :: X ++ [⟨#[41]⟩]) (.un ⟨#[40]⟩ T) ∧ Form.Rd 5 (⟨#[40]⟩ :: X ++ [⟨#[41]⟩]) (.un ⟨#[40]⟩ T) ∧ Form.Rd 6 (⟨#[40]⟩ :: X ++ [⟨#[41]⟩]) (.un ⟨#[40]⟩ T) :=
  Form.Rd.all (Form.plain_par _) (Form.Rd.par h).up7

/-- the text of a small number, and that of a sign between blanks -/
def dgB (n : Int) : ByteArray := ⟨(dgT n).toArray⟩
def opB (a : List UInt8) : ByteArray := ⟨(32 :: (a ++ [32])).toArray⟩
theorem pair1 {x y z : Int} {pa : List UInt8} {qa : List UInt8} (x1 : -9999 ≤ x) (x2 : x ≤ 9999) (y1 : -9999 ≤ y) (y2 : y ≤ 9999) (z1 : -9999 ≤ z) (z2 : z ≤ 9999) (hp : SumO pa) (hq : TermO qa) : Both (dgB x ++ opB pa ++ dgB y ++ opB qa ++ dgB z) (dgB x ++ opB pa ++ ⟨#[40]⟩ ++ dgB y ++ opB qa ++ dgB z ++ ⟨#[41]⟩) := by
  have ox := opn_dg x x1 x2
  have oy := opn_dg y y1 y2
  have oz := opn_dg z z1 z2
  have lp := op_len (.inl hp); have lq := op_len (.inr (.inl hq)); have sx := ox.size; have sy := oy.size; have sz := oz.size
  have tyz := text_bin oy.text oz.text (term_mid hq)
  have ryz := rd_term hq oy.all.2.2.2.2.2.1 oz.all.2.2.2.2.2.1
  obtain ⟨s, v1, v2⟩ := bin_ex (op_ne2 hq) oy.val oz.val
  refine both_of ?_ ?_ (text_bin ox.text tyz (sum_mid hp)) (text_bin ox.text (par_text tyz) (sum_mid hp)) (up3 (rd_sum hp ox.all.2.2.2.2.1 ryz)) (up3 (rd_sum hp ox.all.2.2.2.2.1 (par_all (up4 ryz)).2.2.2.2.1)) ?_ ?_ ?_ ?_ (bin_both (op_ne1 hp) ox.val ox.val v1 v2)
  · apply ByteArray.ext; apply Array.toList_inj.1; simp [dgB, opB]
  · apply ByteArray.ext; apply Array.toList_inj.1; simp [dgB, opB]
  · exact Nat.le_trans (bin_levels (d := 4) (Nat.le_trans ox.deep (by omega)) (bin_levels oy.deep oz.deep)) (by omega)
  · exact Nat.le_trans (bin_levels (d := 5) (Nat.le_trans ox.deep (by omega)) (un_levels (bin_levels oy.deep oz.deep))) (by omega)
  · simp; omega
  · simp; omega
theorem pair2 {x y z : Int} {pa : List UInt8} {qa : List UInt8} (x1 : -9999 ≤ x) (x2 : x ≤ 9999) (y1 : -9999 ≤ y) (y2 : y ≤ 9999) (z1 : -9999 ≤ z) (z2 : z ≤ 9999) (hp : SumO pa) (hq : TermO qa) : Both (dgB x ++ opB qa ++ dgB y ++ opB pa ++ dgB z) (⟨#[40]⟩ ++ dgB x ++ opB qa ++ dgB y ++ ⟨#[41]⟩ ++ opB pa ++ dgB z) := by
  have ox := opn_dg x x1 x2
  have oy := opn_dg y y1 y2
  have oz := opn_dg z z1 z2
  have lp := op_len (.inl hp); have lq := op_len (.inr (.inl hq)); have sx := ox.size; have sy := oy.size; have sz := oz.size
  have txy := text_bin ox.text oy.text (term_mid hq)
  have rxy := rd_term hq ox.all.2.2.2.2.2.1 oy.all.2.2.2.2.2.1
  obtain ⟨s, v1, v2⟩ := bin_ex (op_ne2 hq) ox.val oy.val
  refine both_of ?_ ?_ (text_bin txy oz.text (sum_mid hp)) (text_bin (par_text txy) oz.text (sum_mid hp)) (up3 (rd_sum hp rxy oz.all.2.2.2.2.1)) (up3 (rd_sum hp (par_all (up4 rxy)).2.2.2.2.1 oz.all.2.2.2.2.1)) ?_ ?_ ?_ ?_ (bin_both (op_ne1 hp) v1 v2 oz.val oz.val)
  · apply ByteArray.ext; apply Array.toList_inj.1; simp [dgB, opB]
  · apply ByteArray.ext; apply Array.toList_inj.1; simp [dgB, opB]
  · exact Nat.le_trans (bin_levels (d := 4) (bin_levels ox.deep oy.deep) (Nat.le_trans oz.deep (by omega))) (by omega)
  · exact Nat.le_trans (bin_levels (d := 5) (un_levels (bin_levels ox.deep oy.deep)) (Nat.le_trans oz.deep (by omega))) (by omega)
  · simp; omega
  · simp; omega
theorem pair6 {x y z : Int} {pa : List UInt8} (x1 : -9999 ≤ x) (x2 : x ≤ 9999) (y1 : -9999 ≤ y) (y2 : y ≤ 9999) (z1 : -9999 ≤ z) (z2 : z ≤ 9999) (hp : SumO pa) : Both (dgB x ++ opB pa ++ dgB y ++ opB pa ++ dgB z) (⟨#[40]⟩ ++ dgB x ++ opB pa ++ dgB y ++ ⟨#[41]⟩ ++ opB pa ++ dgB z) := by
  have ox := opn_dg x x1 x2
  have oy := opn_dg y y1 y2
  have oz := opn_dg z z1 z2
  have lp := op_len (.inl hp); have sx := ox.size; have sy := oy.size; have sz := oz.size
  have txy := text_bin ox.text oy.text (sum_mid hp)
  have rxy := rd_sum hp ox.all.2.2.2.2.1 oy.all.2.2.2.2.1
  obtain ⟨s, v1, v2⟩ := bin_ex (op_ne1 hp) ox.val oy.val
  refine both_of ?_ ?_ (text_bin txy oz.text (sum_mid hp)) (text_bin (par_text txy) oz.text (sum_mid hp)) (up3 (rd_sum3 hp ox.all.2.2.2.2.1 oy.all.2.2.2.2.1 oz.all.2.2.2.2.1)) (up3 (rd_sum hp (par_all (up3 rxy)).2.2.2.2.1 oz.all.2.2.2.2.1)) ?_ ?_ ?_ ?_ (bin_both (op_ne1 hp) v1 v2 oz.val oz.val)
  · apply ByteArray.ext; apply Array.toList_inj.1; simp [dgB, opB]
  · apply ByteArray.ext; apply Array.toList_inj.1; simp [dgB, opB]
  · exact Nat.le_trans (bin_levels (d := 4) (bin_levels ox.deep oy.deep) (Nat.le_trans oz.deep (by omega))) (by omega)
  · exact Nat.le_trans (bin_levels (d := 5) (un_levels (bin_levels ox.deep oy.deep)) (Nat.le_trans oz.deep (by omega))) (by omega)
  · simp; omega
  · simp; omega
theorem pair7 {x y : Int} {qa : List UInt8} (x1 : -9999 ≤ x) (x2 : x ≤ 9999) (y1 : -9999 ≤ y) (y2 : y ≤ 9999) (hq : TermO qa) : Both (⟨#[45]⟩ ++ dgB x ++ opB qa ++ dgB y) (⟨#[40, 45]⟩ ++ dgB x ++ ⟨#[41]⟩ ++ opB qa ++ dgB y) := by
  have ox := opn_dg x x1 x2
  have oy := opn_dg y y1 y2
  have lq := op_len (.inr (.inl hq)); have sx := ox.size; have sy := oy.size
  have m := Form.adds_one (c := 45) (by decide) (by decide) (by decide) (by decide) (by decide)
  have tx : Form.Adds (45 :: dgT x) (⟨#[45]⟩ :: dgX x) Form.NoDig1 := m.app ox.text (fun _ _ => trivial)
  have ux := Form.Rd.un (op := ⟨#[45]⟩) (by decide) ox.all.2.2.2.2.2.2
  have ux5 := Form.Rd.up1 (n := 5) (by omega) ux
  have h1 := Val.un (op := ⟨#[45]⟩) (by decide) ox.val
  have hz : OkZ (if (x, (1 : Int), (0 : Int)).2.2 = 0 then signV ⟨#[45]⟩ x 1 else (0, 0, 0)) := by
    rw [if_pos rfl]
    unfold signV
    rw [if_pos rfl]
    exact okz_op _ _ _ _ _ _ _
  have v2 := val_par h1 hz
  refine both_of ?_ ?_ (text_bin tx oy.text (term_mid hq)) (text_bin (par_text tx) oy.text (term_mid hq)) (up4 (rd_term hq ux5 oy.all.2.2.2.2.2.1)) (up4 (rd_term hq (par_all (up4 (Form.Rd.up1 (n := 4) (by omega) ux5))).2.2.2.2.2.1 oy.all.2.2.2.2.2.1)) ?_ ?_ ?_ ?_ (bin_both (op_ne2 hq) h1 v2 oy.val oy.val)
  · apply ByteArray.ext; apply Array.toList_inj.1; simp [dgB, opB]
  · apply ByteArray.ext; apply Array.toList_inj.1; simp [dgB, opB]
  · exact Nat.le_trans (bin_levels (d := 4) (un_levels ox.deep) (Nat.le_trans oy.deep (by omega))) (by omega)
  · exact Nat.le_trans (bin_levels (d := 5) (un_levels (un_levels ox.deep)) (Nat.le_trans oy.deep (by omega))) (by omega)
  · simp; omega
  · simp; omega
theorem pair3 {x y z : Int} {pa : List UInt8} {ra : List UInt8} (x1 : -9999 ≤ x) (x2 : x ≤ 9999) (y1 : -9999 ≤ y) (y2 : y ≤ 9999) (z1 : -9999 ≤ z) (z2 : z ≤ 9999) (hp : SumO pa) (hr : CmpO ra) : Both (dgB x ++ opB pa ++ dgB y ++ opB ra ++ dgB z) (⟨#[40]⟩ ++ dgB x ++ opB pa ++ dgB y ++ ⟨#[41]⟩ ++ opB ra ++ dgB z) := by
  have ox := opn_dg x x1 x2
  have oy := opn_dg y y1 y2
  have oz := opn_dg z z1 z2
  have lp := op_len (.inl hp); have lr := op_len (.inr (.inr hr)); have sx := ox.size; have sy := oy.size; have sz := oz.size
  have txy := text_bin ox.text oy.text (sum_mid hp)
  have rxy := rd_sum hp ox.all.2.2.2.2.1 oy.all.2.2.2.2.1
  obtain ⟨s, v1, v2⟩ := bin_ex (op_ne1 hp) ox.val oy.val
  refine both_of ?_ ?_ (text_bin txy oz.text (cmp_mid hr)) (text_bin (par_text txy) oz.text (cmp_mid hr)) (up2 (rd_cmp2 hr rxy oz.all.2.2.2.1)) (up2 (rd_cmp2 hr (par_all (up3 rxy)).2.2.2.1 oz.all.2.2.2.1)) ?_ ?_ ?_ ?_ (bin_both (op_ne3 hr) v1 v2 oz.val oz.val)
  · apply ByteArray.ext; apply Array.toList_inj.1; simp [dgB, opB]
  · apply ByteArray.ext; apply Array.toList_inj.1; simp [dgB, opB]
  · exact Nat.le_trans (bin_levels (d := 4) (bin_levels ox.deep oy.deep) (Nat.le_trans oz.deep (by omega))) (by omega)
  · exact Nat.le_trans (bin_levels (d := 5) (un_levels (bin_levels ox.deep oy.deep)) (Nat.le_trans oz.deep (by omega))) (by omega)
  · simp; omega
  · simp; omega
theorem pair4 {x y z : Int} {ra : List UInt8} (x1 : -9999 ≤ x) (x2 : x ≤ 9999) (y1 : -9999 ≤ y) (y2 : y ≤ 9999) (z1 : -9999 ≤ z) (z2 : z ≤ 9999) (hr : CmpO ra) : Both (dgB x ++ opB ra ++ dgB y ++ ⟨#[32, 97, 110, 100, 32]⟩ ++ dgB z) (⟨#[40]⟩ ++ dgB x ++ opB ra ++ dgB y ++ ⟨#[41, 32, 97, 110, 100, 32]⟩ ++ dgB z) := by
  have ox := opn_dg x x1 x2
  have oy := opn_dg y y1 y2
  have oz := opn_dg z z1 z2
  have lr := op_len (.inr (.inr hr)); have sx := ox.size; have sy := oy.size; have sz := oz.size
  have am : Form.Adds (32 :: ([97, 110, 100] ++ [32])) [⟨[97, 110, 100].toArray⟩] (fun _ => True) := mid (.inl (by decide))
  have txy := text_bin ox.text oy.text (cmp_mid hr)
  have rxy := rd_cmp2 hr ox.all.2.2.2.1 oy.all.2.2.2.1
  obtain ⟨s, v1, v2⟩ := bin_ex (op_ne3 hr) ox.val oy.val
  refine both_of ?_ ?_ (text_bin txy oz.text am) (text_bin (par_text txy) oz.text am) (rd_and rxy oz.all.2.2.1) (rd_and (par_all (up2 rxy)).2.2.1 oz.all.2.2.1) ?_ ?_ ?_ ?_ (bin_both (by decide) v1 v2 oz.val oz.val)
  · apply ByteArray.ext; apply Array.toList_inj.1; simp [dgB, opB]
  · apply ByteArray.ext; apply Array.toList_inj.1; simp [dgB, opB]
  · exact Nat.le_trans (bin_levels (d := 4) (bin_levels ox.deep oy.deep) (Nat.le_trans oz.deep (by omega))) (by omega)
  · exact Nat.le_trans (bin_levels (d := 5) (un_levels (bin_levels ox.deep oy.deep)) (Nat.le_trans oz.deep (by omega))) (by omega)
  · simp; omega
  · simp; omega
theorem pair5 {x y z : Int}  (x1 : -9999 ≤ x) (x2 : x ≤ 9999) (y1 : -9999 ≤ y) (y2 : y ≤ 9999) (z1 : -9999 ≤ z) (z2 : z ≤ 9999) : Both (dgB x ++ ⟨#[32, 111, 114, 32]⟩ ++ dgB y ++ ⟨#[32, 97, 110, 100, 32]⟩ ++ dgB z) (dgB x ++ ⟨#[32, 111, 114, 32, 40]⟩ ++ dgB y ++ ⟨#[32, 97, 110, 100, 32]⟩ ++ dgB z ++ ⟨#[41]⟩) := by
  have ox := opn_dg x x1 x2
  have oy := opn_dg y y1 y2
  have oz := opn_dg z z1 z2
  have sx := ox.size; have sy := oy.size; have sz := oz.size
  have am : Form.Adds (32 :: ([97, 110, 100] ++ [32])) [⟨[97, 110, 100].toArray⟩] (fun _ => True) := mid (.inl (by decide))
  have om : Form.Adds (32 :: ([111, 114] ++ [32])) [⟨[111, 114].toArray⟩] (fun _ => True) := mid (.inl (by decide))
  have tyz := text_bin oy.text oz.text am
  have ryz : Form.Rd 1 (dgX y ++ ⟨#[97, 110, 100]⟩ :: dgX z) (.bin ⟨#[97, 110, 100]⟩ (dgV y) (dgV z)) := (Form.Ch.bin (n := 1) (op := ⟨#[97, 110, 100]⟩) (Form.Ch.one (by decide) oy.all.2.2.1) (by decide) (fun ts => stop_op 2 _ ts (by decide) (fun _ => by decide) (fun _ => by decide) (fun _ => by decide) (fun _ => by decide) (fun h => by omega) (fun h => by omega)) oz.all.2.2.1).stop (by omega)
  obtain ⟨s, v1, v2⟩ := bin_ex (op := ⟨#[97, 110, 100]⟩) (by decide) oy.val oz.val
  refine both_of ?_ ?_ (text_bin ox.text tyz om) (text_bin ox.text (par_text tyz) om) (rd_or ox.all.2.1 ryz) (rd_or ox.all.2.1 (par_all (Form.Rd.up1 (n := 0) (by omega) ryz)).2.1) ?_ ?_ ?_ ?_ (bin_both (by decide) ox.val ox.val v1 v2)
  · apply ByteArray.ext; apply Array.toList_inj.1; simp [dgB]
  · apply ByteArray.ext; apply Array.toList_inj.1; simp [dgB]
  · exact Nat.le_trans (bin_levels (d := 4) (Nat.le_trans ox.deep (by omega)) (bin_levels oy.deep oz.deep)) (by omega)
  · exact Nat.le_trans (bin_levels (d := 5) (Nat.le_trans ox.deep (by omega)) (un_levels (bin_levels oy.deep oz.deep))) (by omega)
  · simp; omega
  · simp; omega
end Go.Proofs.YtlkfnpmcihfjmaaDoor
