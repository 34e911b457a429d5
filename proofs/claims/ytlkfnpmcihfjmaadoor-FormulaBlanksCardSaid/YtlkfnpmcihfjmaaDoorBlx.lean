/-
  Formulas of whole numbers; the formulas' sanity check. Conditions: those typed in each theorem.
  Small numbers in digits, as the formulas' laws write them. Conditions: those typed in each theorem.
  The law FormulaLogic, walked: it answers true, and writes nothing that was there. No conditions but those typed in each theorem.
-/
import Derived.Test.YtlkfnpmcihfjmaaDoorBlu
import Derived.Test.YtlkfnpmcihfjmaaDoorBlb
import Derived.Test.YtlkfnpmcihfjmaaDoorBlw
import Derived.Test.YtlkfnpmcihfjmaaDoorBlp

namespace Go.Proofs.YtlkfnpmcihfjmaaDoor
open Go.RowKit
set_option linter.unusedVariables false

theorem len_list (s : ByteArray) : s.data.toList.length = s.size := by simp
theorem parse_int (l : List UInt8) (h : ∀ c ∈ l, Num.isD c = true) (h1 : l ≠ []) (h9 : l.length ≤ 9) : Ret 41 #[.string ⟨l.toArray⟩] ((Num.value 0 l : Nat), 1, 0) := by
  obtain ⟨s, hs⟩ : ∃ s : ByteArray, s = ⟨l.toArray⟩ := ⟨_, rfl⟩
  have hl : s.data.toList = l := by rw [hs]
  have hz : s.size = l.length := by rw [hs]; rfl
  have hp : 0 < l.length := List.length_pos_iff.2 h1
  rw [← hs]
  have hall : ∀ c ∈ s.data.toList, Num.isD c = true := by rw [hl]; exact h
  have hno : Lib.indexByte s.data.toList 46 = -1 := by
    rcases index_cases s.data.toList with ⟨a, _⟩ | ⟨p, hp, _, a, _⟩
    · exact a
    · have := hall _ (List.getElem_mem hp)
      rw [a] at this
      exact absurd this (by decide)
  have hd0 : Num.endD s 0 = s.size := by
    unfold Num.endD
    rw [List.drop_zero, Num.lead_all hall, len_list]
    omega
  have h0 : 0 < s.size := by omega
  have hd := Num.isD_iff.1 (hall s[0] (by rw [Num.at_list s 0 h0]; exact List.getElem_mem _))
  have hA : ∀ w, Calls Tryd.prog 58 #[.string (⟨#[48]⟩ ++ s ++ ⟨#[]⟩)] w fun e w' => e = .returned (.tuple #[.int .i64 (Num.value 0 s.data.toList), .nilIface]) ∧ Below w.heap.size w w' := by
    intro w
    have e : (⟨#[48]⟩ : ByteArray) ++ s ++ ⟨#[]⟩ = ⟨(48 :: s.data.toList).toArray⟩ := by
      apply ByteArray.ext
      rw [ByteArray.data_append, ByteArray.data_append]
      apply Array.toList_inj.1
      rw [Array.toList_append, Array.toList_append]
      simp
    rw [e]
    exact atoi_any _ w hall (by rw [len_list]; omega)
  have hv := Num.value_lt hall 0
  have hpw : 10 ^ s.data.toList.length ≤ 10 ^ 9 := Nat.pow_le_pow_right (by omega) (by rw [len_list]; omega)
  have hr : Num.val ((Num.value 0 s.data.toList : Nat) : Int) 1 = true := Num.val_iff.2 ⟨by omega, by omega, by omega, by omega, by simp⟩
  have hred := Num.red_val_self hr
  have hP := fun w => parseP_n_a4 s s ⟨#[]⟩ w (by omega) (by omega) (by decide) h0 (by omega) (by omega) (by omega) (by omega) (by decide) (fun w => cut_no _ w hno) (fun w => hd0 ▸ digitsP _ w (by omega)) ((Num.value 0 s.data.toList : Nat) : Int) 1 hA (fun w => power_any 0 w (by omega)) (by omega) (by omega) (by omega) (by omega)
  have e1 : Num.redN ((Num.value 0 s.data.toList : Nat) : Int) 1 = ((Num.value 0 s.data.toList : Nat) : Int) := congrArg (fun x => x.1) hred
  have e2 : Num.redD ((Num.value 0 s.data.toList : Nat) : Int) 1 = 1 := congrArg (fun x => x.2.1) hred
  have e3 : Num.redE ((Num.value 0 s.data.toList : Nat) : Int) 1 = 0 := congrArg (fun x => x.2.2) hred
  intro w
  have := hP w
  rw [e1, e2, e3, hl] at this
  exact this
/-- a whole number as a leaf of a tree -/
theorem val_int (l : List UInt8) (h : ∀ c ∈ l, Num.isD c = true) (h1 : l ≠ []) (h9 : l.length ≤ 9) : Val (.num ⟨l.toArray⟩) ((Num.value 0 l : Nat), 1, 0) := by
  refine .num (parse_int l h h1 h9) (fun _ => Num.val_iff.2 ?_)
  have hv := Num.value_lt h 0
  have hpw : 10 ^ l.length ≤ 10 ^ 9 := Nat.pow_le_pow_right (by omega) h9
  exact ⟨by simp only; omega, by simp only; omega, by simp only; omega, by simp only; omega, by simp⟩
theorem dig_int (l : List UInt8) (h : ∀ c ∈ l, Num.isD c = true) (h1 : l ≠ []) : Form.dig1 ⟨l.toArray⟩ = true := by
  cases l with
  | nil => exact absurd rfl h1
  | cons c r => exact h c (by simp)
theorem val_un {op : ByteArray} {a : Form.Tree} {x y : Int} {r : Int × Int × Int} (hop : Form.mem op (⟨#[]⟩ :: []) = false) (h : Val a (x, y, 0)) (e : signV op x y = r) : Val (.un op a) r := by
  have := Val.un (op := op) (fun h => by rw [h] at hop; exact absurd hop (by decide)) h
  rw [if_pos rfl, e] at this
  exact this
theorem val_bin {op : ByteArray} {a b : Form.Tree} {x y p q : Int} {r : Int × Int × Int} (hop : Form.mem op (⟨#[]⟩ :: []) = false) (h : Val a (x, y, 0)) (k : Val b (p, q, 0)) (e : applyV op x y p q = r) : Val (.bin op a b) r := by
  have := Val.bin (op := op) (fun h => by rw [h] at hop; exact absurd hop (by decide)) h k
  rw [if_pos rfl, if_pos rfl, e] at this
  exact this

theorem known_tokens : Form.tokens [50, 32, 43, 32, 51, 32, 42, 32, 52, 32, 61, 32, 49, 52] = some [⟨#[50]⟩, ⟨#[43]⟩, ⟨#[51]⟩, ⟨#[42]⟩, ⟨#[52]⟩, ⟨#[61]⟩, ⟨#[49, 52]⟩] := by
  have n2 := Form.adds_num (a := [50]) (by decide) (by decide) (by decide)
  have n3 := Form.adds_num (a := [51]) (by decide) (by decide) (by decide)
  have n4 := Form.adds_num (a := [52]) (by decide) (by decide) (by decide)
  have n14 := Form.adds_num (a := [49, 52]) (by decide) (by decide) (by decide)
  have b := Form.adds_blank (c := 32) (by decide)
  have o1 := Form.adds_one (c := 43) (by decide) (by decide) (by decide) (by decide) (by decide)
  have o2 := Form.adds_one (c := 42) (by decide) (by decide) (by decide) (by decide) (by decide)
  have o3 := Form.adds_one (c := 61) (by decide) (by decide) (by decide) (by decide) (by decide)
  have nd : ∀ (c : UInt8) (l : List UInt8), Num.isD c = false → c ≠ 46 → Form.NoDig1 (c :: l) := fun c l h1 h2 d r e => by cases e; exact ⟨h1, h2⟩
  have t1 : Form.tokens (32 :: 61 :: 32 :: 49 :: 52 :: []) = some [⟨#[61]⟩, ⟨#[49, 52]⟩] := by
    rw [show (32 :: 61 :: 32 :: 49 :: 52 :: [] : List UInt8) = [32] ++ ([61] ++ ([32] ++ ([49, 52] ++ []))) by rfl, b _ trivial, o3 _ trivial, b _ trivial, n14 [] (fun c r e => by cases e), Form.tokens_nil]
    rfl
  rw [show ([50, 32, 43, 32, 51, 32, 42, 32, 52, 32, 61, 32, 49, 52] : List UInt8) = [50] ++ ([32] ++ ([43] ++ ([32] ++ ([51] ++ ([32] ++ ([42] ++ ([32] ++ ([52] ++ (32 :: 61 :: 32 :: 49 :: 52 :: []))))))))) by rfl]
  rw [n2 ([32] ++ _) (nd _ _ (by decide) (by decide)), b _ trivial, o1 _ trivial, b _ trivial, n3 ([32] ++ _) (nd _ _ (by decide) (by decide)), b _ trivial, o2 _ trivial, b _ trivial, n4 [32, 61, 32, 49, 52] (nd _ _ (by decide) (by decide)), t1]
  rfl
theorem known_eval : EvalR ⟨#[50, 32, 43, 32, 51, 32, 42, 32, 52, 32, 61, 32, 49, 52]⟩ (1, 1, 0) := by
  have p2 : Form.Pr [⟨#[50]⟩] _ := Form.Pr.num (by decide)
  have p3 : Form.Pr [⟨#[51]⟩] _ := Form.Pr.num (by decide)
  have p4 : Form.Pr [⟨#[52]⟩] _ := Form.Pr.num (by decide)
  have p14 : Form.Pr [⟨#[49, 52]⟩] _ := Form.Pr.num (by decide)
  obtain ⟨-, -, -, -, a2, -, -⟩ := p2.up7.all (Form.plain_num (by decide))
  obtain ⟨-, -, -, -, -, a3, -⟩ := p3.up7.all (Form.plain_num (by decide))
  obtain ⟨-, -, -, -, -, a4, -⟩ := p4.up7.all (Form.plain_num (by decide))
  obtain ⟨-, -, -, a14, -, -, -⟩ := p14.up7.all (Form.plain_num (by decide))
  have st : ∀ (n : Nat) (op : ByteArray) (ts : List ByteArray), Form.mem op Form.hat = false → (n ≤ 5 → Form.mem op (Form.ops 5) = false) → (n ≤ 4 → Form.mem op (Form.ops 4) = false) → (n ≤ 3 → Form.mem op (Form.ops 3) = false) → 2 < n → Form.stop n (op :: ts) = true := by
    intro n op ts h0 h5 h4 h3 hn
    have c : ∀ l : List ByteArray, Form.mem op l = false → Form.take l (op :: ts) = none := fun l hl => by rw [Form.take, if_neg (by rw [hl]; decide)]
    exact Form.stop_iff.2 ⟨c _ h0, fun h => c _ (h5 h), fun h => c _ (h4 h), fun h => c _ (h3 h), fun h => by omega, fun h => by omega, fun h => by omega⟩
  have m := (Form.Ch.bin (n := 4) (op := ⟨#[42]⟩) (Form.Ch.one (by decide) a3) (by decide) (fun ts => st 5 _ ts (by decide) (fun _ => by decide) (fun h => by omega) (fun h => by omega) (by omega)) a4).stop (by omega)
  have s := (Form.Ch.bin (n := 3) (op := ⟨#[43]⟩) (Form.Ch.one (by decide) a2) (by decide) (fun ts => st 4 _ ts (by decide) (fun _ => by decide) (fun _ => by decide) (fun h => by omega) (by omega)) m).stop (by omega)
  have c := Form.Rd.cmp (op := ⟨#[61]⟩) (by decide) (fun ts => st 3 _ ts (by decide) (fun _ => by decide) (fun _ => by decide) (fun _ => by decide) (by omega)) s a14
  have r := Form.Rd.up1 (n := 0) (by omega) (Form.Rd.up1 (n := 1) (by omega) c)
  obtain ⟨f, hf⟩ := r.whole
  have v2 := val_int [50] (by decide) (by decide) (by decide)
  have v3 := val_int [51] (by decide) (by decide) (by decide)
  have v4 := val_int [52] (by decide) (by decide) (by decide)
  have v14 := val_int [49, 52] (by decide) (by decide) (by decide)
  have w1 := val_bin (op := ⟨#[42]⟩) (r := (12, 1, 0)) (by decide) v3 v4 (by decide)
  have w2 := val_bin (op := ⟨#[43]⟩) (r := (14, 1, 0)) (by decide) v2 w1 (by decide)
  have w3 := val_bin (op := ⟨#[61]⟩) (r := (1, 1, 0)) (by decide) w2 v14 (by decide)
  exact .val (by decide) known_tokens hf (by decide) w3
set_option maxHeartbeats 1000000 in
theorem known_any (w : World) : Calls Tryd.prog 18 #[] w fun e w' => e = .returned (.bool true) ∧ Below w.heap.size w w' := by
  have hE := eval_any (by decide) known_eval
  unfold Ret at hE
  simp only at hE
  go_enter Tryd.func18, Tryd.ntmps18
  go_wp2_with fail
  refine (hE _).mono ?_
  rintro e w1 ⟨rfl, hb1⟩
  have K := Known.made w1 23 #[.int .i64 1, .int .i64 1]
  obtain ⟨k0, k1⟩ := K.two
  go_wp2_with fail
  go_ret
  exact ⟨rfl, hb1.then_ (below_new0 _ _)⟩
end Go.Proofs.YtlkfnpmcihfjmaaDoor

namespace Go.Proofs.YtlkfnpmcihfjmaaDoor
open Go.RowKit
set_option linter.unusedVariables false

/-- the text of a small number: in parentheses if it is negative -/
def dgT (n : Int) : List UInt8 := if n < 0 then 40 :: 45 :: (Lib.decDigits n.natAbs ++ [41]) else Lib.decDigits n.natAbs
def dgX (n : Int) : List ByteArray := if n < 0 then [⟨#[40]⟩, ⟨#[45]⟩, ⟨(Lib.decDigits n.natAbs).toArray⟩, ⟨#[41]⟩] else [⟨(Lib.decDigits n.natAbs).toArray⟩]
def dgV (n : Int) : Form.Tree := if n < 0 then .un ⟨#[40]⟩ (.un ⟨#[45]⟩ (.num ⟨(Lib.decDigits n.natAbs).toArray⟩)) else .num ⟨(Lib.decDigits n.natAbs).toArray⟩
theorem dig_byte (d : Nat) (h : d < 10) : Num.isD (UInt8.ofNat (48 + d)) = true ∧ (UInt8.ofNat (48 + d)).toNat = 48 + d := by
  have e : (UInt8.ofNat (48 + d)).toNat = 48 + d := by simp; omega
  exact ⟨Num.isD_iff.2 (by omega), e⟩
theorem decs_all (n : Nat) : (∀ c ∈ Lib.decDigits n, Num.isD c = true) ∧ Num.value 0 (Lib.decDigits n) = n ∧ Lib.decDigits n ≠ [] := by
  induction n using Nat.strongRecOn with
  | _ n ih =>
    rw [decDigits_step]
    split
    · rename_i h
      obtain ⟨h1, h2⟩ := dig_byte n h
      exact ⟨by intro c hc; simp only [List.mem_singleton] at hc; rw [hc]; exact h1, by rw [Num.value_cons, Num.value_nil, h2]; omega, by simp⟩
    · rename_i h
      obtain ⟨a, b, c⟩ := ih (n / 10) (by omega)
      obtain ⟨h1, h2⟩ := dig_byte (n % 10) (by omega)
      refine ⟨?_, by rw [Num.value_snoc, b, h2]; omega, by simp⟩
      intro d hd
      rcases List.mem_append.1 hd with hd | hd
      · exact a d hd
      · simp only [List.mem_singleton] at hd; rw [hd]; exact h1
theorem decs_len (k : Nat) : ∀ n, n < 10 ^ (k + 1) → (Lib.decDigits n).length ≤ k + 1 := by
  induction k with
  | zero => intro n h; rw [decDigits_step, if_pos (by omega)]; simp
  | succ k ih =>
    intro n h
    rw [decDigits_step]
    split
    · simp
    · have := ih (n / 10) (by rw [Nat.pow_succ] at h; omega)
      rw [List.length_append]; simp; omega
/-- what such a text is: its tokens, what they are read as, what that is worth -/
theorem dg_all (n : Int) (h1 : -9999 ≤ n) (h2 : n ≤ 9999) :
    Form.Adds (dgT n) (dgX n) Form.NoDig1 ∧ Form.Pr (dgX n) (dgV n) ∧ Form.Plain (dgX n) ∧ Val (dgV n) (n, 1, 0) ∧ (dgV n).levels ≤ 3 ∧ (dgT n).length ≤ 7 ∧ ∃ c r, dgT n = c :: r ∧ (Num.isD c = true ∨ c = 40) := by
  obtain ⟨a, b, c⟩ := decs_all n.natAbs
  have hl := decs_len 3 n.natAbs (by omega)
  have ad := Form.adds_num a c (by omega)
  have vl := val_int _ a c (by omega)
  have dg := dig_int _ a c
  rw [b] at vl
  unfold dgT dgX dgV
  by_cases h : n < 0
  · simp only [h, if_true]
    have o := Form.adds_one (c := 40) (by decide) (by decide) (by decide) (by decide) (by decide)
    have m := Form.adds_one (c := 45) (by decide) (by decide) (by decide) (by decide) (by decide)
    have cl := Form.adds_one (c := 41) (by decide) (by decide) (by decide) (by decide) (by decide)
    have t := o.app (m.app (ad.app cl (fun l _ d r e => by cases e; exact ⟨by decide, by decide⟩)) (fun _ _ => trivial)) (fun _ _ => trivial)
    have u := Form.Rd.un (op := ⟨#[45]⟩) (by decide) (Form.Rd.all (Form.plain_num dg) (Form.Pr.num dg).up7).2.2.2.2.2.2
    have u0 : Form.Rd 0 _ _ := Form.Rd.up1 (n := 0) (by omega) (Form.Rd.up1 (n := 1) (by omega) (Form.Rd.up2 (Form.Rd.up1 (n := 3) (by omega) (Form.Rd.up1 (n := 4) (by omega) (Form.Rd.up1 (n := 5) (by omega) u)))))
    have v1 := val_un (op := ⟨#[45]⟩) (r := (n, 1, 0)) (by decide) vl (by
      have e : signV ⟨#[45]⟩ (n.natAbs : Int) 1 = subV 0 1 (n.natAbs : Int) 1 := by unfold signV; rw [if_pos rfl]
      rw [e]
      unfold subV
      rw [opV_ok (by decide) (Num.val_iff.2 ⟨by omega, by omega, by omega, by omega, by simp⟩) (.inl rfl)]
      have e2 : (0 * 1 - (n.natAbs : Int) * 1) = n := by omega
      rw [e2]
      exact Num.red_val_self (Num.val_iff.2 ⟨by omega, by omega, by omega, by omega, by simp⟩))
    have v2 := val_un (op := ⟨#[40]⟩) (r := (n, 1, 0)) (by decide) v1 (by
      unfold signV; rw [if_neg (by decide), if_neg (by decide), if_neg (by decide)])
    exact ⟨fun l hl => by simpa using t l trivial, Form.Rd.par u0, Form.plain_par _, v2, by simp [Form.Tree.levels], by simp; omega, 40, _, rfl, .inr rfl⟩
  · simp only [h, if_false]
    have e : ((n.natAbs : Nat) : Int) = n := by omega
    rw [e] at vl
    refine ⟨ad, Form.Pr.num dg, Form.plain_num dg, vl, by simp [Form.Tree.levels], by omega, ?_⟩
    cases hd : Lib.decDigits n.natAbs with
    | nil => exact absurd hd c
    | cons x r => exact ⟨x, r, rfl, .inl (a x (by rw [hd]; simp))⟩
set_option maxHeartbeats 1000000 in
theorem digits_any (n : Int) (w : World) (h1 : -9223372036854775808 ≤ n ∧ n ≤ 9223372036854775807) :
    Calls Tryd.prog 10 #[.int .i64 n] w fun e w' => e = .returned (.string ⟨(dgT (n.tmod 10000)).toArray⟩) ∧ Below w.heap.size w w' := by
  obtain ⟨m, hm⟩ : ∃ m, n.tmod 10000 = m := ⟨_, rfl⟩
  have k1 : -9999 ≤ m := by have := Int.lt_tmod_of_pos n (b := 10000) (by decide); omega
  have k2 : m ≤ 9999 := by have := Int.tmod_lt_of_pos n (b := 10000) (by decide); omega
  have hD := fun w => decimal_any m w (by omega) (by omega)
  have hl := decs_len 3 m.natAbs (by omega)
  by_cases h : m < 0
  · have e : Lib.itoa m = 45 :: Lib.decDigits m.natAbs := by unfold Lib.itoa; rw [if_pos h]
    have ht : dgT m = 40 :: (Lib.itoa m ++ [41]) := by rw [e, dgT, if_pos h]; simp
    have hz : (Lib.itoa m).length ≤ 10 := by rw [e]; simp; omega
    rw [hm, ht]
    generalize Lib.itoa m = L at *
    clear ht e
    go_enter Tryd.func10, Tryd.ntmps10
    go_wp2_with fail
    refine (hD _).mono ?_
    rintro e w1 ⟨rfl, hb1⟩
    go_wp2_with fail
    go_ret
    exact ⟨by simp [ByteArray.mk_append_mk], hb1⟩
  · have e : Lib.itoa m = Lib.decDigits m.natAbs := by unfold Lib.itoa; rw [if_neg h]; congr 1; omega
    have ht : dgT m = Lib.itoa m := by rw [e, dgT, if_neg h]
    rw [hm, ht]
    generalize Lib.itoa m = L at *
    clear ht e
    go_enter Tryd.func10, Tryd.ntmps10
    go_wp2_with fail
    refine (hD _).mono ?_
    rintro e w1 ⟨rfl, hb1⟩
    go_wp2_with fail
    go_ret
    exact ⟨rfl, hb1⟩
end Go.Proofs.YtlkfnpmcihfjmaaDoor

namespace Go.Proofs.YtlkfnpmcihfjmaaDoor
open Go.RowKit
set_option linter.unusedVariables false

theorem stop_op (n : Nat) (op : ByteArray) (ts : List ByteArray) (h0 : Form.mem op Form.hat = false) (h5 : n ≤ 5 → Form.mem op (Form.ops 5) = false) (h4 : n ≤ 4 → Form.mem op (Form.ops 4) = false) (h3 : n ≤ 3 → Form.mem op (Form.ops 3) = false)
    (h2 : n ≤ 2 → Form.mem op Form.cmpOps = false) (h1 : n ≤ 1 → Form.mem op (Form.ops 1) = false) (h00 : n ≤ 0 → Form.mem op (Form.ops 0) = false) : Form.stop n (op :: ts) = true := by
  have c : ∀ l : List ByteArray, Form.mem op l = false → Form.take l (op :: ts) = none := fun l hl => by rw [Form.take, if_neg (by rw [hl]; decide)]
  exact Form.stop_iff.2 ⟨c _ h0, fun h => c _ (h5 h), fun h => c _ (h4 h), fun h => c _ (h3 h), fun h => c _ (h2 h), fun h => c _ (h1 h), fun h => c _ (h00 h)⟩
theorem nd_cons {c : UInt8} {l : List UInt8} (h1 : Num.isD c = false) (h2 : c ≠ 46) : Form.NoDig1 (c :: l) := fun d r e => by cases e; exact ⟨h1, h2⟩
theorem nd_nil : Form.NoDig1 [] := fun d r e => by cases e
theorem tmod_small {n : Int} (h1 : -9999 ≤ n) (h2 : n ≤ 9999) : n.tmod 10000 = n := by
  rcases Int.le_total 0 n with h | h
  · exact Int.tmod_eq_of_lt h (by omega)
  · have := Int.tmod_eq_of_lt (a := -n) (b := 10000) (by omega) (by omega)
    rw [Int.neg_tmod] at this
    omega
/-- an operand of the laws: its text, its tokens, its tree, its worth -/
structure Opn (l : List UInt8) (X : List ByteArray) (T : Form.Tree) (v : Int × Int × Int) (d k : Nat) : Prop where
  text : Form.Adds l X Form.NoDig1
  read : Form.Pr X T
  plain : Form.Plain X
  val : Val T v
  deep : T.levels ≤ d
  size : l.length ≤ k
theorem opn_dg (n : Int) (h1 : -9999 ≤ n) (h2 : n ≤ 9999) : Opn (dgT n) (dgX n) (dgV n) (n, 1, 0) 3 7 := by
  obtain ⟨a, b, c, d, e, f, -⟩ := dg_all n h1 h2
  exact ⟨a, b, c, d, e, f⟩
/-- such an operand at every level -/
theorem Opn.all {l : List UInt8} {X : List ByteArray} {T : Form.Tree} {v : Int × Int × Int} {d k : Nat} (h : Opn l X T v d k) : Form.Rd 0 X T ∧ Form.Rd 1 X T ∧ Form.Rd 2 X T ∧ Form.Rd 3 X T ∧ Form.Rd 4 X T ∧ Form.Rd 5 X T ∧ Form.Rd 6 X T := Form.Rd.all h.plain h.read.up7
/-- in parentheses: a formula that is read at level 2 or tighter, or at level 0, 1 -/
theorem paren {l : List UInt8} {X : List ByteArray} {T : Form.Tree} {x y : Int} {d k : Nat} (ht : Form.Adds l X Form.NoDig1) (hr : Form.Rd 0 X T) (hv : Val T (x, y, 0)) (hd : T.levels ≤ d) (hk : l.length ≤ k) : Opn (40 :: (l ++ [41])) (⟨#[40]⟩ :: X ++ [⟨#[41]⟩]) (.un ⟨#[40]⟩ T) (x, y, 0) (d + 1) (k + 2) := by
  have o := Form.adds_one (c := 40) (by decide) (by decide) (by decide) (by decide) (by decide)
  have cl := Form.adds_one (c := 41) (by decide) (by decide) (by decide) (by decide) (by decide)
  have t := o.app (ht.app cl (fun l _ => nd_cons (by decide) (by decide))) (fun _ _ => trivial)
  refine ⟨fun l hl => by simpa using t l trivial, Form.Rd.par hr, Form.plain_par _, ?_, by simp only [Form.Tree.levels]; omega, by simp; omega⟩
  refine val_un (by decide) hv ?_
  unfold signV
  rw [if_neg (by decide), if_neg (by decide), if_neg (by decide)]
/-- blank, a sign or a word, blank -/
theorem mid {a : List UInt8} (ha : a ∈ Form.words ∨ a = [61] ∨ a = [43] ∨ a = [45] ∨ a = [42] ∨ a = [47] ∨ a = [60] ∨ a = [62] ∨ a = [60, 61] ∨ a = [60, 62]) : Form.Adds (32 :: (a ++ [32])) [⟨a.toArray⟩] (fun _ => True) := by
  have bl := Form.adds_blank (c := 32) (by decide)
  have key : ∀ {p : List UInt8 → Prop}, Form.Adds a [⟨a.toArray⟩] p → (∀ l, p (32 :: l)) → Form.Adds (32 :: (a ++ [32])) [⟨a.toArray⟩] (fun _ => True) := by
    intro p h hp
    have := bl.app (h.app bl (fun l _ => hp l)) (fun _ _ => trivial)
    intro l hl
    simpa using this l trivial
  rcases ha with h | rfl | rfl | rfl | rfl | rfl | rfl | rfl | rfl | rfl
  · exact key (Form.adds_word h) (fun l d r e => by cases e; decide)
  · exact key (Form.adds_one (by decide) (by decide) (by decide) (by decide) (by decide)) (fun _ => trivial)
  · exact key (Form.adds_one (by decide) (by decide) (by decide) (by decide) (by decide)) (fun _ => trivial)
  · exact key (Form.adds_one (by decide) (by decide) (by decide) (by decide) (by decide)) (fun _ => trivial)
  · exact key (Form.adds_one (by decide) (by decide) (by decide) (by decide) (by decide)) (fun _ => trivial)
  · exact key (Form.adds_one (by decide) (by decide) (by decide) (by decide) (by decide)) (fun _ => trivial)
  · exact key (Form.adds_lt (.inl rfl)) (fun l d r e => by cases e; decide)
  · exact key (Form.adds_lt (.inr rfl)) (fun l d r e => by cases e; decide)
  · exact key (Form.adds_pair (by decide)) (fun _ => trivial)
  · exact key (Form.adds_pair (by decide)) (fun _ => trivial)
/-- two texts with such a sign between -/
theorem text_bin {l m a : List UInt8} {X Y : List ByteArray} (h : Form.Adds l X Form.NoDig1) (k : Form.Adds m Y Form.NoDig1) (ha : Form.Adds (32 :: (a ++ [32])) [⟨a.toArray⟩] (fun _ => True)) : Form.Adds (l ++ (32 :: (a ++ [32]) ++ m)) (X ++ ⟨a.toArray⟩ :: Y) Form.NoDig1 := by
  have := h.app (ha.app k (fun _ _ => trivial)) (fun l _ => nd_cons (by decide) (by decide))
  intro r hr
  simpa using this r hr
/-- a comparison, a sum, an "and", an "or" of two operands, as a formula -/
theorem rd_cmp {X Y : List ByteArray} {T U : Form.Tree} {op : ByteArray} (hop : Form.mem op Form.cmpOps = true) (h0 : Form.mem op Form.hat = false) (h5 : Form.mem op (Form.ops 5) = false) (h4 : Form.mem op (Form.ops 4) = false) (h3 : Form.mem op (Form.ops 3) = false) (h : Form.Rd 3 X T) (k : Form.Rd 3 Y U) : Form.Rd 0 (X ++ op :: Y) (.bin op T U) :=
  Form.Rd.up1 (n := 0) (by omega) (Form.Rd.up1 (n := 1) (by omega) (Form.Rd.cmp hop (fun ts => stop_op 3 op ts h0 (fun _ => h5) (fun _ => h4) (fun _ => h3) (fun h => by omega) (fun h => by omega) (fun h => by omega)) h k))
theorem rd_and {X Y : List ByteArray} {T U : Form.Tree} (h : Form.Rd 2 X T) (k : Form.Rd 2 Y U) : Form.Rd 0 (X ++ ⟨#[97, 110, 100]⟩ :: Y) (.bin ⟨#[97, 110, 100]⟩ T U) :=
  Form.Rd.up1 (n := 0) (by omega) ((Form.Ch.bin (n := 1) (op := ⟨#[97, 110, 100]⟩) (Form.Ch.one (by decide) h) (by decide) (fun ts => stop_op 2 _ ts (by decide) (fun _ => by decide) (fun _ => by decide) (fun _ => by decide) (fun _ => by decide) (fun h => by omega) (fun h => by omega)) k).stop (by omega))
theorem rd_or {X Y : List ByteArray} {T U : Form.Tree} (h : Form.Rd 1 X T) (k : Form.Rd 1 Y U) : Form.Rd 0 (X ++ ⟨#[111, 114]⟩ :: Y) (.bin ⟨#[111, 114]⟩ T U) :=
  (Form.Ch.bin (n := 0) (op := ⟨#[111, 114]⟩) (Form.Ch.one (by decide) h) (by decide) (fun ts => stop_op 1 _ ts (by decide) (fun _ => by decide) (fun _ => by decide) (fun _ => by decide) (fun _ => by decide) (fun _ => by decide) (fun h => by omega)) k).stop (by omega)
theorem rd_up6 {X : List ByteArray} {T : Form.Tree} (h : Form.Rd 6 X T) : Form.Rd 1 X T ∧ Form.Rd 3 X T := by
  have h3 := Form.Rd.up1 (n := 3) (by omega) (Form.Rd.up1 (n := 4) (by omega) (Form.Rd.up1 (n := 5) (by omega) h))
  exact ⟨Form.Rd.up1 (n := 1) (by omega) h3.up2, h3⟩
theorem rd_plus {X Y Z : List ByteArray} {T U V : Form.Tree} (h : Form.Rd 4 X T) (k : Form.Rd 4 Y U) (j : Form.Rd 4 Z V) : Form.Rd 0 (X ++ ⟨#[43]⟩ :: Y ++ ⟨#[43]⟩ :: Z) (.bin ⟨#[43]⟩ (.bin ⟨#[43]⟩ T U) V) := by
  have st : ∀ ts, Form.stop 4 (⟨#[43]⟩ :: ts) = true := fun ts => stop_op 4 _ ts (by decide) (fun _ => by decide) (fun _ => by decide) (fun h => by omega) (fun h => by omega) (fun h => by omega) (fun h => by omega)
  have c := ((Form.Ch.bin (n := 3) (op := ⟨#[43]⟩) (Form.Ch.bin (n := 3) (op := ⟨#[43]⟩) (Form.Ch.one (by decide) h) (by decide) st k) (by decide) st j).stop (by omega)).up2
  exact Form.Rd.up1 (n := 0) (by omega) (Form.Rd.up1 (n := 1) (by omega) c)

/-- the whole of a text -/
theorem eval_of {s : ByteArray} {l : List UInt8} {X : List ByteArray} {T : Form.Tree} {r : Int × Int × Int} (e : s = ⟨l.toArray⟩) (ht : Form.Adds l X Form.NoDig1) (hr : Form.Rd 0 X T) (hd : T.levels ≤ 20) (hl : l.length ≤ 400) (hv : Val T r) : EvalR s r := by
  obtain ⟨f, hf⟩ := hr.whole
  subst e
  exact .val hl (ht.whole nd_nil) hf hd hv
theorem five {x : Int} (h1 : -2 ≤ x) (h2 : x ≤ 2) : x = -2 ∨ x = -1 ∨ x = 0 ∨ x = 1 ∨ x = 2 := by omega
theorem bin_levels {op : ByteArray} {T U : Form.Tree} {d : Nat} (h : T.levels ≤ d) (k : U.levels ≤ d) : (Form.Tree.bin op T U).levels ≤ d + 1 := by
  simp only [Form.Tree.levels]
  have := Nat.max_le.2 ⟨h, k⟩
  omega
theorem un_levels {op : ByteArray} {T : Form.Tree} {d : Nat} (h : T.levels ≤ d) : (Form.Tree.un op T).levels ≤ d + 1 := by
  simp only [Form.Tree.levels]
  omega
theorem logic_p (x y : Int) (h1 : -2 ≤ x) (h2 : x ≤ 2) (h3 : -2 ≤ y) (h4 : y ≤ 2) :
    EvalR (⟨#[110, 111, 116, 32, 40]⟩ ++ ⟨(dgT x).toArray⟩ ++ ⟨#[32, 97, 110, 100, 32]⟩ ++ ⟨(dgT y).toArray⟩ ++ ⟨#[41, 32, 61, 32, 40, 110, 111, 116, 32]⟩ ++ ⟨(dgT x).toArray⟩ ++ ⟨#[32, 111, 114, 32, 110, 111, 116, 32]⟩ ++ ⟨(dgT y).toArray⟩ ++ ⟨#[41]⟩) (1, 1, 0) := by
  have ox := opn_dg x (by omega) (by omega)
  have oy := opn_dg y (by omega) (by omega)
  have nt : Form.Adds [110, 111, 116, 32] [⟨#[110, 111, 116]⟩] (fun _ => True) := by
    have := (Form.adds_word (a := [110, 111, 116]) (by decide)).app (Form.adds_blank (c := 32) (by decide)) (fun l _ d r e => by cases e; decide)
    intro l hl
    simpa using this l trivial
  have tn : ∀ {l X}, Form.Adds l X Form.NoDig1 → Form.Adds ([110, 111, 116, 32] ++ l) (⟨#[110, 111, 116]⟩ :: X) Form.NoDig1 := fun h => nt.app h (fun _ _ => trivial)
  -- x and y
  have v1 := val_bin (op := ⟨#[97, 110, 100]⟩) (r := (truthV (x != 0 && y != 0), 1, 0)) (by decide) ox.val oy.val (by
    unfold applyV
    rw [if_neg (by decide), if_neg (by decide), if_neg (by decide), if_neg (by decide), if_neg (by decide), if_neg (by decide), if_neg (by decide), if_neg (by decide), if_neg (by decide), if_neg (by decide), if_neg (by decide), if_neg (by decide), if_neg (by decide), if_pos rfl])
  have p1 := paren (text_bin ox.text oy.text (mid (.inl (by decide : [97, 110, 100] ∈ Form.words)))) (rd_and ox.all.2.2.1 oy.all.2.2.1) v1 (bin_levels ox.deep oy.deep) (k := 19) (by have := ox.size; have := oy.size; simp; omega)
  have u1 := Form.Rd.un (op := ⟨#[110, 111, 116]⟩) (by decide) p1.all.2.2.2.2.2.2
  -- not x or not y
  have ux := Form.Rd.un (op := ⟨#[110, 111, 116]⟩) (by decide) ox.all.2.2.2.2.2.2
  have uy := Form.Rd.un (op := ⟨#[110, 111, 116]⟩) (by decide) oy.all.2.2.2.2.2.2
  have hnot : ∀ a : Int, signV ⟨#[110, 111, 116]⟩ a 1 = (truthV (a == 0), 1, 0) := fun a => by unfold signV; rw [if_neg (by decide), if_pos rfl]
  have vx := val_un (op := ⟨#[110, 111, 116]⟩) (by decide) ox.val (hnot x)
  have vy := val_un (op := ⟨#[110, 111, 116]⟩) (by decide) oy.val (hnot y)
  have v2 := val_bin (op := ⟨#[111, 114]⟩) (r := (truthV (truthV (x == 0) != 0 || truthV (y == 0) != 0), 1, 0)) (by decide) vx vy (by
    unfold applyV
    rw [if_neg (by decide), if_neg (by decide), if_neg (by decide), if_neg (by decide), if_neg (by decide), if_neg (by decide), if_neg (by decide), if_neg (by decide), if_neg (by decide), if_neg (by decide), if_neg (by decide), if_neg (by decide), if_neg (by decide), if_neg (by decide)])
  have p2 := paren (text_bin (tn ox.text) (tn oy.text) (mid (.inl (by decide : [111, 114] ∈ Form.words)))) (rd_or (rd_up6 ux).1 (rd_up6 uy).1) v2 (bin_levels (un_levels ox.deep) (un_levels oy.deep)) (k := 26) (by have := ox.size; have := oy.size; simp; omega)
  have v3 := val_un (op := ⟨#[110, 111, 116]⟩) (by decide) p1.val (hnot _)
  have v4 := val_bin (op := ⟨#[61]⟩) (r := (1, 1, 0)) (by decide) v3 p2.val (by
    rcases five h1 h2 with rfl | rfl | rfl | rfl | rfl <;> rcases five h3 h4 with rfl | rfl | rfl | rfl | rfl <;> decide)
  refine eval_of ?_ (text_bin (tn p1.text) p2.text (mid (.inr (.inl rfl)))) (rd_cmp (by decide) (by decide) (by decide) (by decide) (by decide) (rd_up6 u1).2 p2.all.2.2.2.1) (Nat.le_trans (bin_levels (d := 6) (Nat.le_trans (un_levels p1.deep) (by omega)) (Nat.le_trans p2.deep (by omega))) (by omega)) ?_ v4
  · apply ByteArray.ext
    apply Array.toList_inj.1
    simp
  · have := p1.size
    have := p2.size
    simp at *
    omega
theorem val_cmp {a b : Form.Tree} {x y : Int} {op : ByteArray} {c : Bool} (hop : Form.mem op (⟨#[]⟩ :: []) = false) (h : Val a (x, 1, 0)) (k : Val b (y, 1, 0)) (e : applyV op x 1 y 1 = (truthV c, 1, 0)) : Val (.bin op a b) (truthV c, 1, 0) := val_bin hop h k e
theorem logic_q (x y : Int) (h1 : -2 ≤ x) (h2 : x ≤ 2) (h3 : -2 ≤ y) (h4 : y ≤ 2) :
    EvalR (⟨#[40]⟩ ++ ⟨(dgT x).toArray⟩ ++ ⟨#[32, 60, 32]⟩ ++ ⟨(dgT y).toArray⟩ ++ ⟨#[41, 32, 43, 32, 40]⟩ ++ ⟨(dgT x).toArray⟩ ++ ⟨#[32, 61, 32]⟩ ++ ⟨(dgT y).toArray⟩ ++ ⟨#[41, 32, 43, 32, 40]⟩ ++ ⟨(dgT x).toArray⟩ ++ ⟨#[32, 62, 32]⟩ ++ ⟨(dgT y).toArray⟩ ++ ⟨#[41]⟩) (1, 1, 0) := by
  have ox := opn_dg x (by omega) (by omega)
  have oy := opn_dg y (by omega) (by omega)
  have hk : ∀ a : List UInt8, a.length ≤ 2 → (dgT x ++ (32 :: (a ++ [32]) ++ dgT y)).length ≤ 19 := fun a ha => by have := ox.size; have := oy.size; simp; omega
  have p1 := paren (text_bin ox.text oy.text (mid (a := [60]) (by simp))) (rd_cmp (by decide) (by decide) (by decide) (by decide) (by decide) ox.all.2.2.2.1 oy.all.2.2.2.1) (val_cmp (c := decide (cmpN x 1 y 1 < 0)) (by decide) ox.val oy.val (by
    unfold applyV; rw [if_neg (by decide), if_neg (by decide), if_neg (by decide), if_neg (by decide), if_neg (by decide), if_neg (by decide), if_neg (by decide), if_neg (by decide), if_neg (by decide), if_pos rfl])) (bin_levels ox.deep oy.deep) (hk [60] (by decide))
  have p2 := paren (text_bin ox.text oy.text (mid (a := [61]) (by simp))) (rd_cmp (by decide) (by decide) (by decide) (by decide) (by decide) ox.all.2.2.2.1 oy.all.2.2.2.1) (val_cmp (c := cmpN x 1 y 1 == 0) (by decide) ox.val oy.val (by
    unfold applyV; rw [if_neg (by decide), if_neg (by decide), if_neg (by decide), if_neg (by decide), if_neg (by decide), if_neg (by decide), if_neg (by decide), if_pos rfl])) (bin_levels ox.deep oy.deep) (hk [61] (by decide))
  have p3 := paren (text_bin ox.text oy.text (mid (a := [62]) (by simp))) (rd_cmp (by decide) (by decide) (by decide) (by decide) (by decide) ox.all.2.2.2.1 oy.all.2.2.2.1) (val_cmp (c := decide (0 < cmpN x 1 y 1)) (by decide) ox.val oy.val (by
    unfold applyV; rw [if_neg (by decide), if_neg (by decide), if_neg (by decide), if_neg (by decide), if_neg (by decide), if_neg (by decide), if_neg (by decide), if_neg (by decide), if_neg (by decide), if_neg (by decide), if_pos rfl])) (bin_levels ox.deep oy.deep) (hk [62] (by decide))
  obtain ⟨s1, e1⟩ : ∃ s, applyV ⟨#[43]⟩ (truthV (decide (cmpN x 1 y 1 < 0))) 1 (truthV (cmpN x 1 y 1 == 0)) 1 = (s, 1, 0) ∧ applyV ⟨#[43]⟩ s 1 (truthV (decide (0 < cmpN x 1 y 1))) 1 = (1, 1, 0) := by
    rcases five h1 h2 with rfl | rfl | rfl | rfl | rfl <;> rcases five h3 h4 with rfl | rfl | rfl | rfl | rfl <;> first | exact ⟨0, by decide, by decide⟩ | exact ⟨1, by decide, by decide⟩
  have v12 := val_bin (op := ⟨#[43]⟩) (by decide) p1.val p2.val e1.1
  have v := val_bin (op := ⟨#[43]⟩) (by decide) v12 p3.val e1.2
  have t12 := text_bin p1.text p2.text (mid (a := [43]) (by simp))
  refine eval_of ?_ (text_bin t12 p3.text (mid (a := [43]) (by simp))) (rd_plus p1.all.2.2.2.2.1 p2.all.2.2.2.2.1 p3.all.2.2.2.2.1) (Nat.le_trans (bin_levels (d := 6) (bin_levels p1.deep p2.deep) (Nat.le_trans p3.deep (by omega))) (by omega)) ?_ v
  · apply ByteArray.ext
    apply Array.toList_inj.1
    simp
  · have := p1.size
    have := p2.size
    have := p3.size
    simp at *
    omega
theorem logic_r (x y : Int) (h1 : -2 ≤ x) (h2 : x ≤ 2) (h3 : -2 ≤ y) (h4 : y ≤ 2) :
    EvalR (⟨#[40]⟩ ++ ⟨(dgT x).toArray⟩ ++ ⟨#[32, 60, 61, 32]⟩ ++ ⟨(dgT y).toArray⟩ ++ ⟨#[41, 32, 60, 62, 32, 40]⟩ ++ ⟨(dgT x).toArray⟩ ++ ⟨#[32, 62, 32]⟩ ++ ⟨(dgT y).toArray⟩ ++ ⟨#[41]⟩) (1, 1, 0) := by
  have ox := opn_dg x (by omega) (by omega)
  have oy := opn_dg y (by omega) (by omega)
  have hk : ∀ a : List UInt8, a.length ≤ 2 → (dgT x ++ (32 :: (a ++ [32]) ++ dgT y)).length ≤ 19 := fun a ha => by have := ox.size; have := oy.size; simp; omega
  have p1 := paren (text_bin ox.text oy.text (mid (a := [60, 61]) (by simp))) (rd_cmp (by decide) (by decide) (by decide) (by decide) (by decide) ox.all.2.2.2.1 oy.all.2.2.2.1) (val_cmp (c := decide (cmpN x 1 y 1 ≤ 0)) (by decide) ox.val oy.val (by
    unfold applyV; rw [if_neg (by decide), if_neg (by decide), if_neg (by decide), if_neg (by decide), if_neg (by decide), if_neg (by decide), if_neg (by decide), if_neg (by decide), if_neg (by decide), if_neg (by decide), if_neg (by decide), if_pos rfl])) (bin_levels ox.deep oy.deep) (hk [60, 61] (by decide))
  have p3 := paren (text_bin ox.text oy.text (mid (a := [62]) (by simp))) (rd_cmp (by decide) (by decide) (by decide) (by decide) (by decide) ox.all.2.2.2.1 oy.all.2.2.2.1) (val_cmp (c := decide (0 < cmpN x 1 y 1)) (by decide) ox.val oy.val (by
    unfold applyV; rw [if_neg (by decide), if_neg (by decide), if_neg (by decide), if_neg (by decide), if_neg (by decide), if_neg (by decide), if_neg (by decide), if_neg (by decide), if_neg (by decide), if_neg (by decide), if_pos rfl])) (bin_levels ox.deep oy.deep) (hk [62] (by decide))
  have v := val_bin (op := ⟨#[60, 62]⟩) (r := (1, 1, 0)) (by decide) p1.val p3.val (by
    rcases five h1 h2 with rfl | rfl | rfl | rfl | rfl <;> rcases five h3 h4 with rfl | rfl | rfl | rfl | rfl <;> decide)
  refine eval_of ?_ (text_bin p1.text p3.text (mid (a := [60, 62]) (by simp))) (rd_cmp (by decide) (by decide) (by decide) (by decide) (by decide) p1.all.2.2.2.1 p3.all.2.2.2.1) (Nat.le_trans (bin_levels p1.deep p3.deep) (by omega)) ?_ v
  · apply ByteArray.ext
    apply Array.toList_inj.1
    simp
  · have := p1.size
    have := p3.size
    simp at *
    omega
set_option maxRecDepth 10000 in
set_option maxHeartbeats 2000000 in
theorem logic_walk (a b A B : Int) (X Y : ByteArray) (w : World) (hA : a.tmod 3 = A) (hB : b.tmod 3 = B) (hX : X.size ≤ 10) (hY : Y.size ≤ 10)
    (h1 : ∀ w, Calls Tryd.prog 10 #[.int .i64 A] w fun e w' => e = .returned (.string X) ∧ Below w.heap.size w w')
    (h2 : ∀ w, Calls Tryd.prog 10 #[.int .i64 B] w fun e w' => e = .returned (.string Y) ∧ Below w.heap.size w w')
    (hP : ∀ w, Calls Tryd.prog 9 #[.string (⟨#[110, 111, 116, 32, 40]⟩ ++ X ++ ⟨#[32, 97, 110, 100, 32]⟩ ++ Y ++ ⟨#[41, 32, 61, 32, 40, 110, 111, 116, 32]⟩ ++ X ++ ⟨#[32, 111, 114, 32, 110, 111, 116, 32]⟩ ++ Y ++ ⟨#[41]⟩)] w fun e w' => e = .returned (.tuple #[.agg #[.int .i64 1, .int .i64 1], .int .i64 0]) ∧ Below w.heap.size w w')
    (hQ : ∀ w, Calls Tryd.prog 9 #[.string (⟨#[40]⟩ ++ X ++ ⟨#[32, 60, 32]⟩ ++ Y ++ ⟨#[41, 32, 43, 32, 40]⟩ ++ X ++ ⟨#[32, 61, 32]⟩ ++ Y ++ ⟨#[41, 32, 43, 32, 40]⟩ ++ X ++ ⟨#[32, 62, 32]⟩ ++ Y ++ ⟨#[41]⟩)] w fun e w' => e = .returned (.tuple #[.agg #[.int .i64 1, .int .i64 1], .int .i64 0]) ∧ Below w.heap.size w w')
    (hR : ∀ w, Calls Tryd.prog 9 #[.string (⟨#[40]⟩ ++ X ++ ⟨#[32, 60, 61, 32]⟩ ++ Y ++ ⟨#[41, 32, 60, 62, 32, 40]⟩ ++ X ++ ⟨#[32, 62, 32]⟩ ++ Y ++ ⟨#[41]⟩)] w fun e w' => e = .returned (.tuple #[.agg #[.int .i64 1, .int .i64 1], .int .i64 0]) ∧ Below w.heap.size w w') :
    Calls Tryd.prog 6 #[.int .i64 a, .int .i64 b] w fun e w' => e = .returned (.bool true) ∧ Below w.heap.size w w' := by
  go_enter Tryd.func6, Tryd.ntmps6
  go_wp2_with fail
  refine (h1 _).mono ?_
  rintro e w1 ⟨rfl, hb1⟩
  go_wp2_with fail
  refine (h2 _).mono ?_
  rintro e w2 ⟨rfl, hb2⟩
  have hb := hb1.then_ hb2
  clear h1 h2
  go_wp2_with fail
  refine (hP _).mono ?_
  rintro e w3 ⟨rfl, hb3⟩
  have K1 := Known.made w3 23 #[.int .i64 1, .int .i64 1]
  replace hb := (hb.then_ hb3).then_ (below_new0 w3 (.cells #[.int .i64 1, .int .i64 1] 23))
  clear hP
  go_wp2_with fail
  refine (hQ _).mono ?_
  rintro e w4 ⟨rfl, hb4⟩
  have K2 := Known.made w4 23 #[.int .i64 1, .int .i64 1]
  replace K1 := (K1.on hb4).alloc (.cells #[.int .i64 1, .int .i64 1] 23)
  replace hb := (hb.then_ hb4).then_ (below_new0 w4 (.cells #[.int .i64 1, .int .i64 1] 23))
  clear hQ
  go_wp2_with fail
  refine (hR _).mono ?_
  rintro e w5 ⟨rfl, hb5⟩
  have K3 := Known.made w5 23 #[.int .i64 1, .int .i64 1]
  replace K1 := (K1.on hb5).alloc (.cells #[.int .i64 1, .int .i64 1] 23)
  replace K2 := (K2.on hb5).alloc (.cells #[.int .i64 1, .int .i64 1] 23)
  replace hb := (hb.then_ hb5).then_ (below_new0 w5 (.cells #[.int .i64 1, .int .i64 1] 23))
  have w1lt := K1.lt
  have w2lt := K2.lt
  replace K1 := K1.alloc (.cells #[.int .i64 1, .int .i64 1] 23)
  replace K2 := K2.alloc (.cells #[.int .i64 1, .int .i64 1] 23)
  replace K3 := K3.alloc (.cells #[.int .i64 1, .int .i64 1] 23)
  have K4 := Known.made (w5.alloc (.cells #[.int .i64 1, .int .i64 1] 23)) 23 #[.int .i64 1, .int .i64 1]
  replace hb := hb.then_ (below_new0 _ (.cells #[.int .i64 1, .int .i64 1] 23))
  obtain ⟨k10, k11⟩ := K1.two
  obtain ⟨k20, k21⟩ := K2.two
  obtain ⟨k30, k31⟩ := K3.two
  obtain ⟨k40, k41⟩ := K4.two
  clear hR hb1 hb2 hb3 hb4 hb5 K1 K2 K3 K4
  go_wp2_with fail
  refine (known_any _).mono ?_
  rintro e w6 ⟨rfl, hb6⟩
  go_wp2_with fail
  go_ret
  exact ⟨rfl, hb.then_ hb6⟩
theorem law_logic (a b : Int) (w : World) (_w0 : -9223372036854775808 ≤ a ∧ a ≤ 9223372036854775807) (_w1 : -9223372036854775808 ≤ b ∧ b ≤ 9223372036854775807) :
    Calls Tryd.prog 6 #[.int .i64 a, .int .i64 b] w fun e w' => e = .returned (.bool true) ∧ Below w.heap.size w w' := by
  obtain ⟨A, hA⟩ : ∃ A, a.tmod 3 = A := ⟨_, rfl⟩
  obtain ⟨B, hB⟩ : ∃ B, b.tmod 3 = B := ⟨_, rfl⟩
  have a1 : -2 ≤ A := by have := Int.lt_tmod_of_pos a (b := 3) (by decide); omega
  have a2 : A ≤ 2 := by have := Int.tmod_lt_of_pos a (b := 3) (by decide); omega
  have b1 : -2 ≤ B := by have := Int.lt_tmod_of_pos b (b := 3) (by decide); omega
  have b2 : B ≤ 2 := by have := Int.tmod_lt_of_pos b (b := 3) (by decide); omega
  have zA := (opn_dg A (by omega) (by omega)).size
  have zB := (opn_dg B (by omega) (by omega)).size
  have h1 := fun w => digits_any A w (by omega)
  have h2 := fun w => digits_any B w (by omega)
  rw [tmod_small (by omega) (by omega)] at h1 h2
  have hP := eval_any (by simp [ByteArray.size]; omega) (logic_p A B a1 a2 b1 b2)
  have hQ := eval_any (by simp [ByteArray.size]; omega) (logic_q A B a1 a2 b1 b2)
  have hR := eval_any (by simp [ByteArray.size]; omega) (logic_r A B a1 a2 b1 b2)
  exact logic_walk a b A B _ _ w hA hB (by show (dgT A).length ≤ 10; omega) (by show (dgT B).length ≤ 10; omega) h1 h2 hP hQ hR
end Go.Proofs.YtlkfnpmcihfjmaaDoor
