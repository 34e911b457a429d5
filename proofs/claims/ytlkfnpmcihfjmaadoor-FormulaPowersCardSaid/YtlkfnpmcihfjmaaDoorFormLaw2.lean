/-
  The law FormulaPowers, walked: it answers true, and writes nothing that was there. No conditions but those typed in each theorem.
-/
import Derived.Test.YtlkfnpmcihfjmaaDoorFormDig
import Derived.Test.YtlkfnpmcihfjmaaDoorMask
namespace Go.Proofs.YtlkfnpmcihfjmaaDoor
open Go.RowKit
set_option linter.unusedVariables false

theorem stop_op (n : Nat) (op : ByteArray) (ts : List ByteArray) (h0 : Form.mem op Form.hat = false) (h5 : n ≤ 5 → Form.mem op (Form.ops 5) = false) (h4 : n ≤ 4 → Form.mem op (Form.ops 4) = false) (h3 : n ≤ 3 → Form.mem op (Form.ops 3) = false)
    (h2 : n ≤ 2 → Form.mem op Form.cmpOps = false) (h1 : n ≤ 1 → Form.mem op (Form.ops 1) = false) (h00 : n ≤ 0 → Form.mem op (Form.ops 0) = false) : Form.stop n (op :: ts) = true := by
  have c : ∀ l : List ByteArray, Form.mem op l = false → Form.take l (op :: ts) = none := fun l hl => by rw [Form.take, if_neg (by rw [hl]; decide)]
  exact Form.stop_iff.2 ⟨c _ h0, fun h => c _ (h5 h), fun h => c _ (h4 h), fun h => c _ (h3 h), fun h => c _ (h2 h), fun h => c _ (h1 h), fun h => c _ (h00 h)⟩
theorem nd_cons {c : UInt8} {l : List UInt8} (h1 : Num.isD c = false) (h2 : c ≠ 46) : Form.NoDig1 (c :: l) := fun d r e => by cases e; exact ⟨h1, h2⟩
theorem nd_nil : Form.NoDig1 [] := fun d r e => by cases e

theorem tmod_small {n : Int} (h1 : -9999 ≤ n) (h2 : n ≤ 9999) : n.tmod 10000 = n := by
  rcases Int.le_total 0 n with h | h
  · exact Int.tmod_eq_of_lt h (by omega)
  · have := Int.tmod_eq_of_lt (a := -n) (b := 10000) (by omega) (by omega)
    rw [Int.neg_tmod] at this
    omega
theorem pow_eval (a n : Int) (h1 : -9999 ≤ a) (h2 : a ≤ 9999) (h3 : -9999 ≤ n) (h4 : n ≤ 9999) : EvalR (⟨(dgT a).toArray⟩ ++ ⟨#[32, 94, 32]⟩ ++ ⟨(dgT n).toArray⟩) (raiseV a 1 n 1) := by
  obtain ⟨a1, a2, a3, a4, a5, a6, c1, r1, a7, -⟩ := dg_all a h1 h2
  obtain ⟨b1, b2, b3, b4, b5, b6, c2, r2, b7, -⟩ := dg_all n h3 h4
  have e : (⟨(dgT a).toArray⟩ ++ ⟨#[32, 94, 32]⟩ ++ ⟨(dgT n).toArray⟩ : ByteArray) = ⟨(dgT a ++ ([32] ++ ([94] ++ ([32] ++ dgT n)))).toArray⟩ := by
    apply ByteArray.ext
    apply Array.toList_inj.1
    simp
  rw [e]
  have bl := Form.adds_blank (c := 32) (by decide)
  have op := Form.adds_one (c := 94) (by decide) (by decide) (by decide) (by decide) (by decide)
  have t := a1.app (bl.app (op.app (bl.app b1 (fun _ _ => trivial)) (fun _ _ => trivial)) (fun _ _ => trivial)) (fun l _ => nd_cons (by decide) (by decide))
  have tk := t.whole nd_nil
  have y6 := (Form.Rd.all b3 b2.up7).2.2.2.2.2.2
  have p7 := a2.pow y6
  have pl : Form.Plain (dgX a ++ ⟨#[94]⟩ :: dgX n) := by
    obtain ⟨x, r, hx, hm⟩ := a3
    exact ⟨x, r ++ ⟨#[94]⟩ :: dgX n, by rw [hx]; simp, hm⟩
  obtain ⟨f, hf⟩ := (Form.Rd.all pl p7).1.whole
  have v := val_bin (op := ⟨#[94]⟩) (r := raiseV a 1 n 1) (by decide) a4 b4 (by
    unfold applyV
    rw [if_neg (by decide), if_neg (by decide), if_neg (by decide), if_neg (by decide), if_neg (by decide), if_pos rfl])
  refine .val (f := f) (by show (dgT a ++ ([32] ++ ([94] ++ ([32] ++ dgT n)))).length ≤ 400; simp; omega) tk ?_ ?_ v
  · simpa using hf
  · simp only [Form.Tree.levels]
    have := Nat.max_le.2 ⟨a5, b5⟩
    omega
/-- the powers by the law's own loop: what is reached behind so many rounds -/
def InR (x : Int) : Prop := -1000000000 ≤ x ∧ x ≤ 1000000000
theorem mul_one (x a : Int) (hx : InR x) (h1 : -9 ≤ a) (h2 : a ≤ 9) : InR (x * a) → mulV x 1 a 1 = (x * a, 1, 0) := by
  intro h
  unfold mulV
  rw [opV_ok (Num.val_iff.2 ⟨hx.1, hx.2, by omega, by omega, by simp⟩) (Num.val_iff.2 ⟨by omega, by omega, by omega, by omega, by simp⟩) (.inl rfl)]
  exact Num.red_val_self (Num.val_iff.2 ⟨h.1, h.2, by omega, by omega, by simp⟩)
theorem mul_out (x a : Int) (hx : InR x) (h1 : -9 ≤ a) (h2 : a ≤ 9) : ¬ InR (x * a) → (mulV x 1 a 1).2.2 = 15 := by
  intro h
  unfold mulV
  rw [opV_ok (Num.val_iff.2 ⟨hx.1, hx.2, by omega, by omega, by simp⟩) (Num.val_iff.2 ⟨by omega, by omega, by omega, by omega, by simp⟩) (.inl rfl)]
  unfold Num.red Num.redE
  have e : Num.rN (x * a) (1 * 1) = x * a := by simp [Num.rN, Num.sN, Num.gc]
  have hb : Num.rB (x * a) (1 * 1) = false := by
    unfold Num.rB
    rw [e, decide_eq_false_iff_not]
    intro hh
    exact h ⟨hh.1, hh.2.1⟩
  rw [hb]
  rfl
/-- where the loop stands: the product so far, and what the whole comes to -/
def At (a : Int) (n i : Nat) (x : Int) (R : Int × Int × Int) : Prop :=
  InR x ∧ (i = 0 ∧ x = 1 ∨ 1 ≤ i ∧ powV a 1 (i - 1) = (x, 1, 0)) ∨ ¬ InR x ∧ -9000000000 ≤ x ∧ x ≤ 9000000000 ∧ R = (0, 0, 15)
theorem at_step {a : Int} {n i : Nat} {x : Int} {R : Int × Int × Int} (h1 : -9 ≤ a) (h2 : a ≤ 9) (hi : i < n) (hR : R = powV a 1 (n - 1)) (hin : InR x) (h : i = 0 ∧ x = 1 ∨ 1 ≤ i ∧ powV a 1 (i - 1) = (x, 1, 0)) : At a n (i + 1) (x * a) R := by
  have hb : -9000000000 ≤ x * a ∧ x * a ≤ 9000000000 := by
    obtain ⟨p, q⟩ := hin
    have h3 := mul_lim (x := x) (y := a) (k := 1000000000) (l := 9) (by omega) (by omega) p q h1 h2
    omega
  by_cases ho : InR (x * a)
  · left
    refine ⟨ho, .inr ⟨by omega, ?_⟩⟩
    rcases h with ⟨rfl, rfl⟩ | ⟨h3, h4⟩
    · simp [powV]
    · obtain ⟨j, rfl⟩ : ∃ j, i = j + 1 := ⟨i - 1, by omega⟩
      simp only [Nat.add_sub_cancel] at h4 ⊢
      rw [powV, h4]
      simp only [if_true, mul_one x a hin h1 h2 ho]
  · right
    refine ⟨ho, hb.1, hb.2, ?_⟩
    rcases h with ⟨rfl, rfl⟩ | ⟨h3, h4⟩
    · exact absurd (by unfold InR; omega) ho
    · obtain ⟨j, rfl⟩ : ∃ j, i = j + 1 := ⟨i - 1, by omega⟩
      simp only [Nat.add_sub_cancel] at h4
      have hm := mul_out x a hin h1 h2 ho
      have e1 : powV a 1 (j + 1) = (0, 0, 15) := by
        rw [powV, h4]
        simp only [if_true, hm]
        rw [if_neg (by decide)]
      have h5 := powV_err (a := a) (b := 1) (k := j + 1) (by rw [e1]; decide) (n - 1 - (j + 1))
      rw [show j + 1 + (n - 1 - (j + 1)) = n - 1 by omega, e1] at h5
      rw [hR, h5]
set_option maxRecDepth 10000 in
set_option maxHeartbeats 2000000 in
theorem powers_range (a n : Int) (A N : Int) (X Y : ByteArray) (w : World) (hA : a.tmod 10 = A) (hN : bits BinOp.and IntKind.i64 n 63 - 16 = N) (hX : X.size ≤ 10) (hY : Y.size ≤ 10) (n1 : -16 ≤ N) (n2 : N ≤ 47)
    (h1 : ∀ w, Calls Tryd.prog 10 #[.int .i64 A] w fun e w' => e = .returned (.string X) ∧ Below w.heap.size w w')
    (h2 : ∀ w, Calls Tryd.prog 10 #[.int .i64 N] w fun e w' => e = .returned (.string Y) ∧ Below w.heap.size w w')
    (hr : N < 0 ∨ 0 ≤ N ∧ 30 < N)
    (hE : ∀ w, Calls Tryd.prog 9 #[.string (X ++ ⟨#[32, 94, 32]⟩ ++ Y)] w fun e w' => e = .returned (.tuple #[.agg #[.int .i64 0, .int .i64 0], .int .i64 2]) ∧ Below w.heap.size w w') :
    Calls Tryd.prog 7 #[.int .i64 a, .int .i64 n] w fun e w' => e = .returned (.bool true) ∧ Below w.heap.size w w' := by
  rcases hr with hr | ⟨hr, hr'⟩
  all_goals
    go_enter Tryd.func7, Tryd.ntmps7
    go_wp2_with fail
    refine (h1 _).mono ?_
    rintro e w1 ⟨rfl, hb1⟩
    go_wp2_with fail
    refine (h2 _).mono ?_
    rintro e w2 ⟨rfl, hb2⟩
    have hb := hb1.then_ hb2
    go_wp2_with fail
    refine (hE _).mono ?_
    rintro e w3 ⟨rfl, hb3⟩
    replace hb := hb.then_ hb3
    clear hb1 hb2 hb3 h1 h2 hE
    go_wp2_with fail
    refine (known_any _).mono ?_
    rintro e w4 ⟨rfl, hb4⟩
    go_wp2_with fail
    go_ret
    exact ⟨rfl, (hb.then_ (below_new0 _ _)).then_ hb4⟩
set_option maxRecDepth 10000 in
set_option maxHeartbeats 4000000 in
theorem powers_loop (a n : Int) (A : Int) (N : Nat) (X Y : ByteArray) (w : World) (R : Int × Int × Int) (hA : a.tmod 10 = A) (hN : bits BinOp.and IntKind.i64 n 63 - 16 = (N : Int)) (hX : X.size ≤ 10) (hY : Y.size ≤ 10) (n2 : N ≤ 30) (a1 : -9 ≤ A) (a2 : A ≤ 9)
    (h1 : ∀ w, Calls Tryd.prog 10 #[.int .i64 A] w fun e w' => e = .returned (.string X) ∧ Below w.heap.size w w')
    (h2 : ∀ w, Calls Tryd.prog 10 #[.int .i64 N] w fun e w' => e = .returned (.string Y) ∧ Below w.heap.size w w')
    (hR0 : N = 0 → R = (1, 1, 0)) (hR1 : 1 ≤ N → R = powV A 1 (N - 1))
    (hE : ∀ w, Calls Tryd.prog 9 #[.string (X ++ ⟨#[32, 94, 32]⟩ ++ Y)] w fun e w' => e = .returned (.tuple #[.agg #[.int .i64 R.1, .int .i64 R.2.1], .int .i64 R.2.2]) ∧ Below w.heap.size w w') :
    Calls Tryd.prog 7 #[.int .i64 a, .int .i64 n] w fun e w' => e = .returned (.bool true) ∧ Below w.heap.size w w' := by
  have HR0 := Lib.hid hR0
  have HR1 := Lib.hid hR1
  clear hR0 hR1
  go_enter Tryd.func7, Tryd.ntmps7
  go_wp2_with fail
  refine (h1 _).mono ?_
  rintro e w1 ⟨rfl, hb1⟩
  go_wp2_with fail
  refine (h2 _).mono ?_
  rintro e w2 ⟨rfl, hb2⟩
  have hb := hb1.then_ hb2
  go_wp2_with fail
  refine (hE _).mono ?_
  rintro e w3 ⟨rfl, hb3⟩
  replace hb := (hb.then_ hb3).then_ (below_new0 w3 (.cells #[.int .i64 R.1, .int .i64 R.2.1] 23))
  have K := Known.made w3 23 #[.int .i64 R.1, .int .i64 R.2.1]
  clear hb1 hb2 hb3 h1 h2 hE hA hN
  go_wp2_with fail
  go_loopg [7, 8] (N + 1) (fun g s7 s8 wr => ∃ (i : Nat) (x : Int), i ≤ N ∧ N - i < g ∧ s7 = .int .i64 x ∧ s8 = .int .i64 i ∧ At A N i x R ∧ wr = w3.alloc (.cells #[.int .i64 R.1, .int .i64 R.2.1] 23))
  case atStart => exact ⟨0, 1, by omega, by omega, rfl, rfl, .inl ⟨by unfold InR; omega, .inl ⟨rfl, rfl⟩⟩, rfl⟩
  case round =>
    obtain ⟨i, x, hi, hg, rfl, rfl, hat, rfl⟩ := hrel
    obtain ⟨k0, k1⟩ := K.two
    rcases hat with ⟨hin, hat⟩ | ⟨hout, o1, o2, hRe⟩
    · obtain ⟨p, q⟩ := hin
      by_cases hlt : i < N
      · have st := Lib.hid (at_step a1 a2 hlt (HR1.out (by omega)) ⟨p, q⟩ hat)
        have hb9 := mul_lim (x := x) (y := A) (k := 1000000000) (l := 9) (by omega) (by omega) p q a1 a2
        have p1 : -9000000000 ≤ x * A := by omega
        have p2 : x * A ≤ 9000000000 := by omega
        clear hat HR0 HR1 hb9
        go_wp2_with fail
        go_roundg (N - (i + 1) + 1)
        case measure => omega
        case rel => exact ⟨i + 1, x * A, by omega, by omega, rfl, by go_num, st.out, rfl⟩
      · have hiN : i = N := by omega
        have e1 : R = (x, 1, 0) := by
          rcases hat with ⟨h3, h4⟩ | ⟨h3, h4⟩
          · rw [HR0.out (by omega), h4]
          · rw [HR1.out (by omega), ← hiN, h4]
        obtain ⟨r1, r2, r3⟩ := R
        simp only [Prod.mk.injEq] at e1
        obtain ⟨rfl, rfl, rfl⟩ := e1
        simp only at k0 k1
        clear hat HR0 HR1
        go_wp2_with fail
        refine (known_any _).mono ?_
        rintro e w4 ⟨rfl, hb4⟩
        go_wp2_with fail
        go_ret
        exact ⟨rfl, hb.then_ hb4⟩
    · obtain ⟨r1, r2, r3⟩ := R
      simp only [Prod.mk.injEq] at hRe
      obtain ⟨rfl, rfl, rfl⟩ := hRe
      unfold InR at hout
      clear HR0 HR1
      have ho : 1000000000 < x ∨ x ≤ 1000000000 ∧ x < -1000000000 := by omega
      by_cases hlt : i < N
      · rcases ho with ho | ⟨ho, ho'⟩
        all_goals
          go_wp2_with fail
          refine (known_any _).mono ?_
          rintro e w4 ⟨rfl, hb4⟩
          go_wp2_with fail
          go_ret
          exact ⟨rfl, hb.then_ hb4⟩
      · rcases ho with ho | ⟨ho, ho'⟩
        all_goals
          go_wp2_with fail
          refine (known_any _).mono ?_
          rintro e w4 ⟨rfl, hb4⟩
          go_wp2_with fail
          go_ret
          exact ⟨rfl, hb.then_ hb4⟩
theorem law_powers (a n : Int) (w : World) (_w0 : -9223372036854775808 ≤ a ∧ a ≤ 9223372036854775807) (_w1 : -9223372036854775808 ≤ n ∧ n ≤ 9223372036854775807) :
    Calls Tryd.prog 7 #[.int .i64 a, .int .i64 n] w fun e w' => e = .returned (.bool true) ∧ Below w.heap.size w w' := by
  have hB : bits BinOp.and IntKind.i64 n 63 = n % 64 := mask_i64 6 (by decide) n _ (by decide)
  obtain ⟨A, hA⟩ : ∃ A, a.tmod 10 = A := ⟨_, rfl⟩
  obtain ⟨N, hN⟩ : ∃ N, n % 64 - 16 = N := ⟨_, rfl⟩
  have a1 : -9 ≤ A := by have := Int.lt_tmod_of_pos a (b := 10) (by decide); omega
  have a2 : A ≤ 9 := by have := Int.tmod_lt_of_pos a (b := 10) (by decide); omega
  have n1 : -16 ≤ N := by omega
  have n2 : N ≤ 47 := by omega
  have hE := eval_any (by
    show (⟨(dgT A).toArray⟩ ++ ⟨#[32, 94, 32]⟩ ++ ⟨(dgT N).toArray⟩ : ByteArray).size ≤ 1000000
    have := (dg_all A (by omega) (by omega)).2.2.2.2.2.1
    have := (dg_all N (by omega) (by omega)).2.2.2.2.2.1
    simp [ByteArray.size]; omega) (pow_eval A N (by omega) (by omega) (by omega) (by omega))
  unfold Ret at hE
  have h1 := fun w => digits_any A w (by omega)
  have h2 := fun w => digits_any N w (by omega)
  rw [tmod_small (by omega) (by omega)] at h1 h2
  have z1 : (⟨(dgT A).toArray⟩ : ByteArray).size ≤ 10 := by
    have := (dg_all A (by omega) (by omega)).2.2.2.2.2.1
    show (dgT A).length ≤ 10
    omega
  have z2 : (⟨(dgT N).toArray⟩ : ByteArray).size ≤ 10 := by
    have := (dg_all N (by omega) (by omega)).2.2.2.2.2.1
    show (dgT N).length ≤ 10
    omega
  rw [← hB] at hN
  by_cases hr : 0 ≤ N ∧ N ≤ 30
  · obtain ⟨m, rfl⟩ : ∃ m : Nat, N = m := ⟨N.toNat, by omega⟩
    have hw : wholeB (m : Int) 1 0 30 = true := by simp [wholeB]; omega
    refine powers_loop a n A m _ _ w (raiseV A 1 m 1) hA hN z1 z2 (by omega) a1 a2 h1 h2 ?_ ?_ hE
    · intro h0; subst h0; unfold raiseV; rw [hw, if_pos rfl, if_pos (by simp)]
    · intro h0; unfold raiseV; rw [hw, if_pos rfl, if_neg (by omega)]; simp
  · have hw : wholeB N 1 0 30 = false := by simp [wholeB]; omega
    have e : raiseV A 1 N 1 = (0, 0, 2) := by unfold raiseV; rw [hw, if_neg (by decide)]
    rw [e] at hE
    exact powers_range a n A N _ _ w hA hN z1 z2 n1 n2 h1 h2 (by omega) hE
end Go.Proofs.YtlkfnpmcihfjmaaDoor
