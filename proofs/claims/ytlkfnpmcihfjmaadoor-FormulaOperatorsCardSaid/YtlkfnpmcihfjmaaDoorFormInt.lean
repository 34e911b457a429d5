/-
  Formulas of whole numbers; the formulas' sanity check. Conditions: those typed in each theorem.
-/
import Derived.Test.YtlkfnpmcihfjmaaDoorFormEval
import Derived.Test.YtlkfnpmcihfjmaaDoorFormText
import Derived.Test.YtlkfnpmcihfjmaaDoorNumParP0
namespace Go.Proofs.YtlkfnpmcihfjmaaDoor
open Go.RowKit
set_option linter.unusedVariables false

theorem len_list (s : ByteArray) : s.data.toList.length = s.size := by simp
theorem parse_int (l : List UInt8) (h : ∀ c ∈ l, Num.isD c = true) (h1 : l ≠ []) (h9 : l.length ≤ 9) : Ret 41 #[.string ⟨l.toArray⟩] ((Num.value 0 l : Nat), 1, 0) := by
  obtain ⟨s, hs⟩ : ∃ s : ByteArray, s = ⟨l.toArray⟩ := ⟨_, rfl⟩
  have hl : s.data.toList = l := by rw [hs]
  have hz : s.size = l.length := by rw [hs]; rfl
  have hp : 0 < l.length := List.length_pos_iff.2 h1
  rw [← hs]
  have hall : ∀ c ∈ s.data.toList, Num.isD c = true := by rw [hl]; exact h
  have hno : Lib.indexByte s.data.toList 46 = -1 := by
    rcases index_cases s.data.toList with ⟨a, _⟩ | ⟨p, hp, _, a, _⟩
    · exact a
    · have := hall _ (List.getElem_mem hp)
      rw [a] at this
      exact absurd this (by decide)
  have hd0 : Num.endD s 0 = s.size := by
    unfold Num.endD
    rw [List.drop_zero, Num.lead_all hall, len_list]
    omega
  have h0 : 0 < s.size := by omega
  have hd := Num.isD_iff.1 (hall s[0] (by rw [Num.at_list s 0 h0]; exact List.getElem_mem _))
  have hA : ∀ w, Calls Tryd.prog 58 #[.string (⟨#[48]⟩ ++ s ++ ⟨#[]⟩)] w fun e w' => e = .returned (.tuple #[.int .i64 (Num.value 0 s.data.toList), .nilIface]) ∧ Below w.heap.size w w' := by
    intro w
    have e : (⟨#[48]⟩ : ByteArray) ++ s ++ ⟨#[]⟩ = ⟨(48 :: s.data.toList).toArray⟩ := by
      apply ByteArray.ext
      rw [ByteArray.data_append, ByteArray.data_append]
      apply Array.toList_inj.1
      rw [Array.toList_append, Array.toList_append]
      simp
    rw [e]
    exact atoi_any _ w hall (by rw [len_list]; omega)
  have hv := Num.value_lt hall 0
  have hpw : 10 ^ s.data.toList.length ≤ 10 ^ 9 := Nat.pow_le_pow_right (by omega) (by rw [len_list]; omega)
  have hr : Num.val ((Num.value 0 s.data.toList : Nat) : Int) 1 = true := Num.val_iff.2 ⟨by omega, by omega, by omega, by omega, by simp⟩
  have hred := Num.red_val_self hr
  have hP := fun w => parseP_n_a4 s s ⟨#[]⟩ w (by omega) (by omega) (by decide) h0 (by omega) (by omega) (by omega) (by omega) (by decide) (fun w => cut_no _ w hno) (fun w => hd0 ▸ digitsP _ w (by omega)) ((Num.value 0 s.data.toList : Nat) : Int) 1 hA (fun w => power_any 0 w (by omega)) (by omega) (by omega) (by omega) (by omega)
  have e1 : Num.redN ((Num.value 0 s.data.toList : Nat) : Int) 1 = ((Num.value 0 s.data.toList : Nat) : Int) := congrArg (fun x => x.1) hred
  have e2 : Num.redD ((Num.value 0 s.data.toList : Nat) : Int) 1 = 1 := congrArg (fun x => x.2.1) hred
  have e3 : Num.redE ((Num.value 0 s.data.toList : Nat) : Int) 1 = 0 := congrArg (fun x => x.2.2) hred
  intro w
  have := hP w
  rw [e1, e2, e3, hl] at this
  exact this
/-- a whole number as a leaf of a tree -/
theorem val_int (l : List UInt8) (h : ∀ c ∈ l, Num.isD c = true) (h1 : l ≠ []) (h9 : l.length ≤ 9) : Val (.num ⟨l.toArray⟩) ((Num.value 0 l : Nat), 1, 0) := by
  refine .num (parse_int l h h1 h9) (fun _ => Num.val_iff.2 ?_)
  have hv := Num.value_lt h 0
  have hpw : 10 ^ l.length ≤ 10 ^ 9 := Nat.pow_le_pow_right (by omega) h9
  exact ⟨by simp only; omega, by simp only; omega, by simp only; omega, by simp only; omega, by simp⟩
theorem dig_int (l : List UInt8) (h : ∀ c ∈ l, Num.isD c = true) (h1 : l ≠ []) : Form.dig1 ⟨l.toArray⟩ = true := by
  cases l with
  | nil => exact absurd rfl h1
  | cons c r => exact h c (by simp)
theorem val_un {op : ByteArray} {a : Form.Tree} {x y : Int} {r : Int × Int × Int} (hop : Form.mem op (⟨#[]⟩ :: []) = false) (h : Val a (x, y, 0)) (e : signV op x y = r) : Val (.un op a) r := by
  have := Val.un (op := op) (fun h => by rw [h] at hop; exact absurd hop (by decide)) h
  rw [if_pos rfl, e] at this
  exact this
theorem val_bin {op : ByteArray} {a b : Form.Tree} {x y p q : Int} {r : Int × Int × Int} (hop : Form.mem op (⟨#[]⟩ :: []) = false) (h : Val a (x, y, 0)) (k : Val b (p, q, 0)) (e : applyV op x y p q = r) : Val (.bin op a b) r := by
  have := Val.bin (op := op) (fun h => by rw [h] at hop; exact absurd hop (by decide)) h k
  rw [if_pos rfl, if_pos rfl, e] at this
  exact this

theorem known_tokens : Form.tokens [50, 32, 43, 32, 51, 32, 42, 32, 52, 32, 61, 32, 49, 52] = some [⟨#[50]⟩, ⟨#[43]⟩, ⟨#[51]⟩, ⟨#[42]⟩, ⟨#[52]⟩, ⟨#[61]⟩, ⟨#[49, 52]⟩] := by
  have n2 := Form.adds_num (a := [50]) (by decide) (by decide) (by decide)
  have n3 := Form.adds_num (a := [51]) (by decide) (by decide) (by decide)
  have n4 := Form.adds_num (a := [52]) (by decide) (by decide) (by decide)
  have n14 := Form.adds_num (a := [49, 52]) (by decide) (by decide) (by decide)
  have b := Form.adds_blank (c := 32) (by decide)
  have o1 := Form.adds_one (c := 43) (by decide) (by decide) (by decide) (by decide) (by decide)
  have o2 := Form.adds_one (c := 42) (by decide) (by decide) (by decide) (by decide) (by decide)
  have o3 := Form.adds_one (c := 61) (by decide) (by decide) (by decide) (by decide) (by decide)
  have nd : ∀ (c : UInt8) (l : List UInt8), Num.isD c = false → c ≠ 46 → Form.NoDig1 (c :: l) := fun c l h1 h2 d r e => by cases e; exact ⟨h1, h2⟩
  have t1 : Form.tokens (32 :: 61 :: 32 :: 49 :: 52 :: []) = some [⟨#[61]⟩, ⟨#[49, 52]⟩] := by
    rw [show (32 :: 61 :: 32 :: 49 :: 52 :: [] : List UInt8) = [32] ++ ([61] ++ ([32] ++ ([49, 52] ++ []))) by rfl, b _ trivial, o3 _ trivial, b _ trivial, n14 [] (fun c r e => by cases e), Form.tokens_nil]
    rfl
  rw [show ([50, 32, 43, 32, 51, 32, 42, 32, 52, 32, 61, 32, 49, 52] : List UInt8) = [50] ++ ([32] ++ ([43] ++ ([32] ++ ([51] ++ ([32] ++ ([42] ++ ([32] ++ ([52] ++ (32 :: 61 :: 32 :: 49 :: 52 :: []))))))))) by rfl]
  rw [n2 ([32] ++ _) (nd _ _ (by decide) (by decide)), b _ trivial, o1 _ trivial, b _ trivial, n3 ([32] ++ _) (nd _ _ (by decide) (by decide)), b _ trivial, o2 _ trivial, b _ trivial, n4 [32, 61, 32, 49, 52] (nd _ _ (by decide) (by decide)), t1]
  rfl
theorem known_eval : EvalR ⟨#[50, 32, 43, 32, 51, 32, 42, 32, 52, 32, 61, 32, 49, 52]⟩ (1, 1, 0) := by
  have p2 : Form.Pr [⟨#[50]⟩] _ := Form.Pr.num (by decide)
  have p3 : Form.Pr [⟨#[51]⟩] _ := Form.Pr.num (by decide)
  have p4 : Form.Pr [⟨#[52]⟩] _ := Form.Pr.num (by decide)
  have p14 : Form.Pr [⟨#[49, 52]⟩] _ := Form.Pr.num (by decide)
  obtain ⟨-, -, -, -, a2, -, -⟩ := p2.up7.all (Form.plain_num (by decide))
  obtain ⟨-, -, -, -, -, a3, -⟩ := p3.up7.all (Form.plain_num (by decide))
  obtain ⟨-, -, -, -, -, a4, -⟩ := p4.up7.all (Form.plain_num (by decide))
  obtain ⟨-, -, -, a14, -, -, -⟩ := p14.up7.all (Form.plain_num (by decide))
  have st : ∀ (n : Nat) (op : ByteArray) (ts : List ByteArray), Form.mem op Form.hat = false → (n ≤ 5 → Form.mem op (Form.ops 5) = false) → (n ≤ 4 → Form.mem op (Form.ops 4) = false) → (n ≤ 3 → Form.mem op (Form.ops 3) = false) → 2 < n → Form.stop n (op :: ts) = true := by
    intro n op ts h0 h5 h4 h3 hn
    have c : ∀ l : List ByteArray, Form.mem op l = false → Form.take l (op :: ts) = none := fun l hl => by rw [Form.take, if_neg (by rw [hl]; decide)]
    exact Form.stop_iff.2 ⟨c _ h0, fun h => c _ (h5 h), fun h => c _ (h4 h), fun h => c _ (h3 h), fun h => by omega, fun h => by omega, fun h => by omega⟩
  have m := (Form.Ch.bin (n := 4) (op := ⟨#[42]⟩) (Form.Ch.one (by decide) a3) (by decide) (fun ts => st 5 _ ts (by decide) (fun _ => by decide) (fun h => by omega) (fun h => by omega) (by omega)) a4).stop (by omega)
  have s := (Form.Ch.bin (n := 3) (op := ⟨#[43]⟩) (Form.Ch.one (by decide) a2) (by decide) (fun ts => st 4 _ ts (by decide) (fun _ => by decide) (fun _ => by decide) (fun h => by omega) (by omega)) m).stop (by omega)
  have c := Form.Rd.cmp (op := ⟨#[61]⟩) (by decide) (fun ts => st 3 _ ts (by decide) (fun _ => by decide) (fun _ => by decide) (fun _ => by decide) (by omega)) s a14
  have r := Form.Rd.up1 (n := 0) (by omega) (Form.Rd.up1 (n := 1) (by omega) c)
  obtain ⟨f, hf⟩ := r.whole
  have v2 := val_int [50] (by decide) (by decide) (by decide)
  have v3 := val_int [51] (by decide) (by decide) (by decide)
  have v4 := val_int [52] (by decide) (by decide) (by decide)
  have v14 := val_int [49, 52] (by decide) (by decide) (by decide)
  have w1 := val_bin (op := ⟨#[42]⟩) (r := (12, 1, 0)) (by decide) v3 v4 (by decide)
  have w2 := val_bin (op := ⟨#[43]⟩) (r := (14, 1, 0)) (by decide) v2 w1 (by decide)
  have w3 := val_bin (op := ⟨#[61]⟩) (r := (1, 1, 0)) (by decide) w2 v14 (by decide)
  exact .val (by decide) known_tokens hf (by decide) w3
set_option maxHeartbeats 1000000 in
theorem known_any (w : World) : Calls Tryd.prog 18 #[] w fun e w' => e = .returned (.bool true) ∧ Below w.heap.size w w' := by
  have hE := eval_any (by decide) known_eval
  unfold Ret at hE
  simp only at hE
  go_enter Tryd.func18, Tryd.ntmps18
  go_wp2_with fail
  refine (hE _).mono ?_
  rintro e w1 ⟨rfl, hb1⟩
  have K := Known.made w1 23 #[.int .i64 1, .int .i64 1]
  obtain ⟨k0, k1⟩ := K.two
  go_wp2_with fail
  go_ret
  exact ⟨rfl, hb1.then_ (below_new0 _ _)⟩
end Go.Proofs.YtlkfnpmcihfjmaaDoor
