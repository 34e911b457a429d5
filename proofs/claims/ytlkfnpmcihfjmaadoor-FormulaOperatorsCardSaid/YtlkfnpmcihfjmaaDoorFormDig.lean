/-
  Small numbers in digits, as the formulas' laws write them. Conditions: those typed in each theorem.
-/
import Derived.Test.YtlkfnpmcihfjmaaDoorFormInt
import Derived.Test.YtlkfnpmcihfjmaaDoorItoa
namespace Go.Proofs.YtlkfnpmcihfjmaaDoor
open Go.RowKit
set_option linter.unusedVariables false

/-- the text of a small number: in parentheses if it is negative -/
def dgT (n : Int) : List UInt8 := if n < 0 then 40 :: 45 :: (Lib.decDigits n.natAbs ++ [41]) else Lib.decDigits n.natAbs
def dgX (n : Int) : List ByteArray := if n < 0 then [⟨#[40]⟩, ⟨#[45]⟩, ⟨(Lib.decDigits n.natAbs).toArray⟩, ⟨#[41]⟩] else [⟨(Lib.decDigits n.natAbs).toArray⟩]
def dgV (n : Int) : Form.Tree := if n < 0 then .un ⟨#[40]⟩ (.un ⟨#[45]⟩ (.num ⟨(Lib.decDigits n.natAbs).toArray⟩)) else .num ⟨(Lib.decDigits n.natAbs).toArray⟩
theorem dig_byte (d : Nat) (h : d < 10) : Num.isD (UInt8.ofNat (48 + d)) = true ∧ (UInt8.ofNat (48 + d)).toNat = 48 + d := by
  have e : (UInt8.ofNat (48 + d)).toNat = 48 + d := by simp; omega
  exact ⟨Num.isD_iff.2 (by omega), e⟩
theorem decs_all (n : Nat) : (∀ c ∈ Lib.decDigits n, Num.isD c = true) ∧ Num.value 0 (Lib.decDigits n) = n ∧ Lib.decDigits n ≠ [] := by
  induction n using Nat.strongRecOn with
  | _ n ih =>
    rw [decDigits_step]
    split
    · rename_i h
      obtain ⟨h1, h2⟩ := dig_byte n h
      exact ⟨by intro c hc; simp only [List.mem_singleton] at hc; rw [hc]; exact h1, by rw [Num.value_cons, Num.value_nil, h2]; omega, by simp⟩
    · rename_i h
      obtain ⟨a, b, c⟩ := ih (n / 10) (by omega)
      obtain ⟨h1, h2⟩ := dig_byte (n % 10) (by omega)
      refine ⟨?_, by rw [Num.value_snoc, b, h2]; omega, by simp⟩
      intro d hd
      rcases List.mem_append.1 hd with hd | hd
      · exact a d hd
      · simp only [List.mem_singleton] at hd; rw [hd]; exact h1
theorem decs_len (k : Nat) : ∀ n, n < 10 ^ (k + 1) → (Lib.decDigits n).length ≤ k + 1 := by
  induction k with
  | zero => intro n h; rw [decDigits_step, if_pos (by omega)]; simp
  | succ k ih =>
    intro n h
    rw [decDigits_step]
    split
    · simp
    · have := ih (n / 10) (by rw [Nat.pow_succ] at h; omega)
      rw [List.length_append]; simp; omega
/-- what such a text is: its tokens, what they are read as, what that is worth -/
theorem dg_all (n : Int) (h1 : -9999 ≤ n) (h2 : n ≤ 9999) :
    Form.Adds (dgT n) (dgX n) Form.NoDig1 ∧ Form.Pr (dgX n) (dgV n) ∧ Form.Plain (dgX n) ∧ Val (dgV n) (n, 1, 0) ∧ (dgV n).levels ≤ 3 ∧ (dgT n).length ≤ 7 ∧ ∃ c r, dgT n = c :: r ∧ (Num.isD c = true ∨ c = 40) := by
  obtain ⟨a, b, c⟩ := decs_all n.natAbs
  have hl := decs_len 3 n.natAbs (by omega)
  have ad := Form.adds_num a c (by omega)
  have vl := val_int _ a c (by omega)
  have dg := dig_int _ a c
  rw [b] at vl
  unfold dgT dgX dgV
  by_cases h : n < 0
  · simp only [h, if_true]
    have o := Form.adds_one (c := 40) (by decide) (by decide) (by decide) (by decide) (by decide)
    have m := Form.adds_one (c := 45) (by decide) (by decide) (by decide) (by decide) (by decide)
    have cl := Form.adds_one (c := 41) (by decide) (by decide) (by decide) (by decide) (by decide)
    have t := o.app (m.app (ad.app cl (fun l _ d r e => by cases e; exact ⟨by decide, by decide⟩)) (fun _ _ => trivial)) (fun _ _ => trivial)
    have u := Form.Rd.un (op := ⟨#[45]⟩) (by decide) (Form.Rd.all (Form.plain_num dg) (Form.Pr.num dg).up7).2.2.2.2.2.2
    have u0 : Form.Rd 0 _ _ := Form.Rd.up1 (n := 0) (by omega) (Form.Rd.up1 (n := 1) (by omega) (Form.Rd.up2 (Form.Rd.up1 (n := 3) (by omega) (Form.Rd.up1 (n := 4) (by omega) (Form.Rd.up1 (n := 5) (by omega) u)))))
    have v1 := val_un (op := ⟨#[45]⟩) (r := (n, 1, 0)) (by decide) vl (by
      have e : signV ⟨#[45]⟩ (n.natAbs : Int) 1 = subV 0 1 (n.natAbs : Int) 1 := by unfold signV; rw [if_pos rfl]
      rw [e]
      unfold subV
      rw [opV_ok (by decide) (Num.val_iff.2 ⟨by omega, by omega, by omega, by omega, by simp⟩) (.inl rfl)]
      have e2 : (0 * 1 - (n.natAbs : Int) * 1) = n := by omega
      rw [e2]
      exact Num.red_val_self (Num.val_iff.2 ⟨by omega, by omega, by omega, by omega, by simp⟩))
    have v2 := val_un (op := ⟨#[40]⟩) (r := (n, 1, 0)) (by decide) v1 (by
      unfold signV; rw [if_neg (by decide), if_neg (by decide), if_neg (by decide)])
    exact ⟨fun l hl => by simpa using t l trivial, Form.Rd.par u0, Form.plain_par _, v2, by simp [Form.Tree.levels], by simp; omega, 40, _, rfl, .inr rfl⟩
  · simp only [h, if_false]
    have e : ((n.natAbs : Nat) : Int) = n := by omega
    rw [e] at vl
    refine ⟨ad, Form.Pr.num dg, Form.plain_num dg, vl, by simp [Form.Tree.levels], by omega, ?_⟩
    cases hd : Lib.decDigits n.natAbs with
    | nil => exact absurd hd c
    | cons x r => exact ⟨x, r, rfl, .inl (a x (by rw [hd]; simp))⟩
set_option maxHeartbeats 1000000 in
theorem digits_any (n : Int) (w : World) (h1 : -9223372036854775808 ≤ n ∧ n ≤ 9223372036854775807) :
    Calls Tryd.prog 10 #[.int .i64 n] w fun e w' => e = .returned (.string ⟨(dgT (n.tmod 10000)).toArray⟩) ∧ Below w.heap.size w w' := by
  obtain ⟨m, hm⟩ : ∃ m, n.tmod 10000 = m := ⟨_, rfl⟩
  have k1 : -9999 ≤ m := by have := Int.lt_tmod_of_pos n (b := 10000) (by decide); omega
  have k2 : m ≤ 9999 := by have := Int.tmod_lt_of_pos n (b := 10000) (by decide); omega
  have hD := fun w => decimal_any m w (by omega) (by omega)
  have hl := decs_len 3 m.natAbs (by omega)
  by_cases h : m < 0
  · have e : Lib.itoa m = 45 :: Lib.decDigits m.natAbs := by unfold Lib.itoa; rw [if_pos h]
    have ht : dgT m = 40 :: (Lib.itoa m ++ [41]) := by rw [e, dgT, if_pos h]; simp
    have hz : (Lib.itoa m).length ≤ 10 := by rw [e]; simp; omega
    rw [hm, ht]
    generalize Lib.itoa m = L at *
    clear ht e
    go_enter Tryd.func10, Tryd.ntmps10
    go_wp2_with fail
    refine (hD _).mono ?_
    rintro e w1 ⟨rfl, hb1⟩
    go_wp2_with fail
    go_ret
    exact ⟨by simp [ByteArray.mk_append_mk], hb1⟩
  · have e : Lib.itoa m = Lib.decDigits m.natAbs := by unfold Lib.itoa; rw [if_neg h]; congr 1; omega
    have ht : dgT m = Lib.itoa m := by rw [e, dgT, if_neg h]
    rw [hm, ht]
    generalize Lib.itoa m = L at *
    clear ht e
    go_enter Tryd.func10, Tryd.ntmps10
    go_wp2_with fail
    refine (hD _).mono ?_
    rintro e w1 ⟨rfl, hb1⟩
    go_wp2_with fail
    go_ret
    exact ⟨rfl, hb1⟩
end Go.Proofs.YtlkfnpmcihfjmaaDoor
