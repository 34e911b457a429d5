/-
  The built texts' tokens and the values of their numbers. Conditions: those typed in each theorem.
  The tokens of the built texts, and their values between blanks and in parentheses. Conditions: those typed in each theorem.
  A built text has one value: as it is, between blanks, in parentheses. Conditions: those typed in each theorem.
  The law FormulaBlanks, walked: it answers true, and writes nothing that was there. No conditions but those typed in each theorem.
-/
import Derived.Test.YtlkfnpmcihfjmaaDoorBlb
import Derived.Test.YtlkfnpmcihfjmaaDoorBlq
import Derived.Test.YtlkfnpmcihfjmaaDoorBlx
import Derived.Test.YtlkfnpmcihfjmaaDoorBlw

namespace Go.Proofs.YtlkfnpmcihfjmaaDoor
open Go.RowKit
set_option linter.unusedVariables false

/-- a value without a fault, or nought with a fault -/
def ErrV (x : Int × Int × Int) : Prop := x.2.2 = 0 ∨ x = (0, 0, x.2.2)
theorem err_ite {p : Prop} [Decidable p] {x y : Int × Int × Int} (hx : p → ErrV x) (hy : ¬ p → ErrV y) : ErrV (if p then x else y) := by
  by_cases h : p
  · rw [if_pos h]; exact hx h
  · rw [if_neg h]; exact hy h
theorem err_no (e : Int) : ErrV (0, 0, e) := .inr rfl
theorem err_red (n m : Int) : ErrV (Num.red n m) := by
  unfold Num.red Num.redN Num.redD Num.redE
  by_cases h : Num.rB n m = true
  · rw [if_pos h, if_pos h, if_pos h]; exact .inl rfl
  · rw [if_neg h, if_neg h, if_neg h]; exact .inr rfl
theorem err_opV (z : Bool) (n m a b c d : Int) : ErrV (opV z n m a b c d) := by
  unfold opV
  exact err_ite (fun _ => err_ite (fun _ => err_no _) (fun _ => err_red _ _)) (fun _ => err_no _)
theorem err_pow (a b : Int) : ∀ k, ErrV (powV a b k)
  | 0 => .inl rfl
  | k + 1 => by
    rw [powV]
    simp only
    exact err_ite (fun _ => err_ite (fun h => .inl h) (fun _ => err_no _)) (fun _ => err_pow a b k)
theorem err_sign (op : ByteArray) (a b : Int) : ErrV (signV op a b) := by
  unfold signV
  refine err_ite (fun _ => err_opV _ _ _ _ _ _ _) (fun _ => err_ite (fun _ => .inl rfl) (fun _ => err_ite (fun _ => err_ite (fun _ => ?_) (fun _ => err_no _)) (fun _ => .inl rfl)))
  unfold mkN mkD mkE
  by_cases h : mkB (floorV a b).1 1 = true
  · rw [if_pos h, if_pos h, if_pos h]; exact err_red _ _
  · rw [if_neg h, if_neg h, if_neg h]; exact err_no _
theorem err_round (a b k : Int) : ErrV (roundV a b k) := by
  unfold roundV
  exact err_ite (fun _ => err_ite (fun _ => err_no _) (fun _ => err_red _ _)) (fun _ => err_no _)
theorem err_apply (op : ByteArray) (a b c d : Int) : ErrV (applyV op a b c d) := by
  unfold applyV
  refine err_ite (fun _ => err_opV _ _ _ _ _ _ _) fun _ => err_ite (fun _ => err_opV _ _ _ _ _ _ _) fun _ => err_ite (fun _ => err_opV _ _ _ _ _ _ _) fun _ => err_ite (fun _ => err_opV _ _ _ _ _ _ _) fun _ => err_ite (fun _ => err_opV _ _ _ _ _ _ _) fun _ => err_ite (fun _ => ?_) fun _ => err_ite (fun _ => ?_) fun _ => ?_
  · unfold raiseV
    exact err_ite (fun _ => err_ite (fun _ => .inl rfl) (fun _ => err_pow _ _ _)) (fun _ => err_no _)
  · unfold roundsV
    exact err_ite (fun _ => err_round _ _ _) (fun _ => err_no _)
  · repeat (refine err_ite (fun _ => .inl rfl) fun _ => ?_)
    exact .inl rfl
/-- the value of a decimal fraction's text -/
theorem parse_dec (s W Q : ByteArray) (p q : Nat) (hsz : s.size ≤ 30) (h0 : 0 < s.size) (hp : p < s.size) (hsp : s.size = p + 1 + q) (hW : s.extract 0 p = W) (hQ : s.extract (p + 1) s.size = Q) (h9 : p ≤ 9) (q1 : 0 < q) (q9 : q ≤ 9)
    (hi : Lib.indexByte s.data.toList 46 = p) (hc : ¬ (s[0].toNat : Int) = 43) (hd : ¬ (s[0].toNat : Int) = 45) (aW : ∀ c ∈ W.data.toList, Num.isD c = true) (aQ : ∀ c ∈ Q.data.toList, Num.isD c = true) (zW : W.size = p) (zQ : Q.size = q) :
    ∃ r : Int × Int × Int, Ret 41 #[.string s] r ∧ (r.2.2 = 0 → Num.val r.1 r.2.1 = true) ∧ ErrV r := by
  have lW := len_list W
  have lQ := len_list Q
  have dW : Num.endD W 0 = W.size := by unfold Num.endD; rw [List.drop_zero, Num.lead_all aW, len_list]; omega
  have dQ : Num.endD Q 0 = Q.size := by unfold Num.endD; rw [List.drop_zero, Num.lead_all aQ, len_list]; omega
  have hcut := fun w => cut_at s p w hi hp (by omega)
  rw [hW, hQ] at hcut
  have cW := fun w => digitsP W w (by omega)
  have cQ := fun w => digitsP Q w (by omega)
  rw [dW] at cW
  rw [dQ] at cQ
  have all : ∀ c ∈ W.data.toList ++ Q.data.toList, Num.isD c = true := fun c hcm => by
    rcases List.mem_append.1 hcm with hcm | hcm
    · exact aW c hcm
    · exact aQ c hcm
  have hA : ∀ w, Calls Tryd.prog 58 #[.string (⟨#[48]⟩ ++ W ++ Q)] w fun e w' => e = .returned (.tuple #[.int .i64 (Num.value 0 (W.data.toList ++ Q.data.toList)), .nilIface]) ∧ Below w.heap.size w w' := by
    intro w
    have e : (⟨#[48]⟩ : ByteArray) ++ W ++ Q = ⟨(48 :: (W.data.toList ++ Q.data.toList)).toArray⟩ := by
      apply ByteArray.ext
      rw [ByteArray.data_append, ByteArray.data_append]
      apply Array.toList_inj.1
      rw [Array.toList_append, Array.toList_append]
      simp
    rw [e]
    exact atoi_any _ w all (by rw [List.length_append]; omega)
  have hv := Num.value_lt all 0
  have hpa : 10 ^ (W.data.toList ++ Q.data.toList).length ≤ 10 ^ 18 := Nat.pow_le_pow_right (by omega) (by rw [List.length_append]; omega)
  have hpb := pow_bd q q9
  refine ⟨Num.red ((Num.value 0 (W.data.toList ++ Q.data.toList) : Nat) : Int) ((10 : Int) ^ q), fun w => ?_, fun h => red_ok' (by omega) h, err_red _ _⟩
  exact parseP_n_a10 s W Q w (by omega) (by omega) (by omega) h0 hc hd (by omega) (by omega) (by omega) hcut cW cQ ((Num.value 0 (W.data.toList ++ Q.data.toList) : Nat) : Int) ((10 : Int) ^ q) hA (fun w => by rw [zQ]; exact power_any q w q9) (by omega) (by omega) hpb.1 hpb.2
theorem parse_emp : Ret 41 #[.string ⟨#[]⟩] (0, 0, 1) := fun w =>
  parseP_e_a3 ⟨#[]⟩ ⟨#[]⟩ ⟨#[]⟩ w (by decide) (by decide) (by decide) rfl rfl (fun w => cut_no ⟨#[]⟩ w rfl) (fun w => digitsP ⟨#[]⟩ w (by decide))
/-- a text of which the value is known to be there -/
def Num1 (t : ByteArray) : Prop := ∃ r : Int × Int × Int, Ret 41 #[.string t] r ∧ (r.2.2 = 0 → Num.val r.1 r.2.1 = true) ∧ ErrV r
theorem num_int (l : List UInt8) (h : ∀ c ∈ l, Num.isD c = true) (h1 : l ≠ []) (h9 : l.length ≤ 9) : Num1 ⟨l.toArray⟩ := by
  refine ⟨_, parse_int l h h1 h9, fun _ => Num.val_iff.2 ?_, .inl rfl⟩
  have hv := Num.value_lt h 0
  have hpw : 10 ^ l.length ≤ 10 ^ 9 := Nat.pow_le_pow_right (by omega) h9
  exact ⟨by simp only; omega, by simp only; omega, by simp only; omega, by simp only; omega, by simp⟩
theorem ext_at (s : ByteArray) (i j : Nat) : (s.extract i j).data.toList = (s.data.toList.take j).drop i := by
  rw [ByteArray.data_extract, Array.toList_extract, List.extract_eq_take_drop, ← List.drop_take]
theorem num_dec (a b : List UInt8) (ha : ∀ c ∈ a, Num.isD c = true) (hb : ∀ c ∈ b, Num.isD c = true) (a1 : 0 < a.length) (a9 : a.length ≤ 9) (b1 : 0 < b.length) (b9 : b.length ≤ 9) : Num1 ⟨(a ++ 46 :: b).toArray⟩ := by
  obtain ⟨s, hs⟩ : ∃ s : ByteArray, s = ⟨(a ++ 46 :: b).toArray⟩ := ⟨_, rfl⟩
  have hl : s.data.toList = a ++ 46 :: b := by rw [hs]
  have hz : s.size = a.length + 1 + b.length := by
    have : s.size = s.data.toList.length := (len_list s).symm
    rw [this, hl, List.length_append, List.length_cons]; omega
  have h0 : 0 < s.size := by omega
  have hc := Num.isD_iff.1 (ha (a[0]'a1) (List.getElem_mem _))
  have e0 : s[0] = a[0]'a1 := by
    rw [Num.at_list s 0 h0]
    simp only [hl]
    rw [List.getElem_append_left a1]
  have hW : s.extract 0 a.length = ⟨a.toArray⟩ := by
    apply ByteArray.ext
    apply Array.toList_inj.1
    rw [ext_at, hl]
    simp
  have hQ : s.extract (a.length + 1) s.size = ⟨b.toArray⟩ := by
    apply ByteArray.ext
    apply Array.toList_inj.1
    rw [ext_at, hl, hz, List.take_of_length_le (by simp; omega)]
    rw [show a ++ 46 :: b = (a ++ [46]) ++ b by simp, List.drop_left' (by simp)]
  have hi : Lib.indexByte s.data.toList 46 = (a.length : Int) := by
    rcases index_cases s.data.toList with ⟨_, h⟩ | ⟨p, hp, h, hx, hno⟩
    · exact absurd rfl (h 46 (by rw [hl]; simp))
    · rw [h]
      have h1 : ¬ p < a.length := fun hlt => by
        have := ha _ (List.getElem_mem hlt)
        have e : s.data.toList[p] = a[p] := by simp only [hl]; rw [List.getElem_append_left hlt]
        rw [← e, hx] at this
        exact absurd this (by decide)
      have h2 : ¬ a.length < p := fun hlt => by
        have := hno 46 (by rw [hl, List.mem_take_iff_getElem]; exact ⟨a.length, by simp; omega, by simp⟩)
        exact absurd rfl this
      have : p = a.length := by omega
      rw [this]
  have := parse_dec s ⟨a.toArray⟩ ⟨b.toArray⟩ a.length b.length (by omega) h0 (by omega) hz hW hQ a9 b1 b9 hi (by rw [e0]; omega) (by rw [e0]; omega) ha hb rfl rfl
  rw [hs] at this
  exact this
theorem num_atom {t : ByteArray} (h : t ∈ atomsB) : Num1 t := by
  simp only [atomsB, List.mem_cons, List.not_mem_nil, or_false] at h
  rcases h with rfl | rfl | rfl | rfl | rfl | rfl | rfl | rfl | rfl | rfl
  · exact num_int [49] (by decide) (by decide) (by decide)
  · exact num_int [50] (by decide) (by decide) (by decide)
  · exact num_int [48] (by decide) (by decide) (by decide)
  · exact num_dec [51] [53] (by decide) (by decide) (by decide) (by decide) (by decide) (by decide)
  · exact num_int [49, 48] (by decide) (by decide) (by decide)
  · exact num_dec [48] [50, 53] (by decide) (by decide) (by decide) (by decide) (by decide) (by decide)
  · exact num_int [55] (by decide) (by decide) (by decide)
  · exact num_int [49, 48, 48, 48, 48, 48] (by decide) (by decide) (by decide)
  · exact num_int [57, 57, 57, 57, 57, 57, 57, 57, 57] (by decide) (by decide) (by decide)
  · exact num_dec [49] [48, 48, 48, 48, 48, 48, 48, 48, 49] (by decide) (by decide) (by decide) (by decide) (by decide) (by decide)
end Go.Proofs.YtlkfnpmcihfjmaaDoor

namespace Go.Proofs.YtlkfnpmcihfjmaaDoor
open Go.RowKit
set_option linter.unusedVariables false

theorem adds_dec {a b : List UInt8} (ha : ∀ c ∈ a, Num.isD c = true) (hb : ∀ c ∈ b, Num.isD c = true) (a1 : 0 < a.length) (a9 : a.length ≤ 9) (b1 : 0 < b.length) (b9 : b.length ≤ 9) : Form.Adds (a ++ 46 :: b) [⟨(a ++ 46 :: b).toArray⟩] Form.NoDig1 := by
  have ra : Form.leadR 48 57 a = a.length := by
    have := Form.lead_stop (l := []) ha (fun c r h => by cases h)
    rw [List.append_nil] at this
    rw [Form.leadR_dig, this]
  refine Form.adds_of (by simp) (fun c hc => ?_) (fun l hl => ?_)
  · cases a with
    | nil => simp at a1
    | cons d r =>
      simp at hc
      subst hc
      exact Form.blank_dig (ha d (by simp))
  · have e1 : (a ++ 46 :: b) ++ l = a ++ 46 :: (b ++ l) := by simp
    have e2 : Form.leadR 48 57 (a ++ 46 :: (b ++ l)) = a.length := by rw [Form.leadR_stop (by decide), ra]
    have e3 : (a ++ 46 :: (b ++ l)).drop a.length = 46 :: (b ++ l) := List.drop_left
    have e4 : (a ++ 46 :: (b ++ l)).drop (a.length + 1) = b ++ l := by
      rw [← List.drop_drop, e3]; rfl
    have e5 : Form.leadR 48 57 (b ++ l) = b.length := by rw [Form.leadR_dig, Form.lead_stop hb hl]
    rw [e1]
    unfold Form.next
    simp only [e2, e3, e4, e5]
    rw [if_pos a1, if_neg (by omega), if_pos (show (46 :: (b ++ l)).head? = some 46 from rfl), if_neg (by omega), if_pos b1]
    simp
    omega
/-- tokens that are numbers of which the value is known, or no numbers -/
def HasQ (ts : List ByteArray) : Prop := ∀ t ∈ ts, ¬ t = ⟨#[]⟩ ∧ (Form.dig1 t = true → t ∈ atomsB)
theorem HasQ.app {a b : List ByteArray} (h : HasQ a) (k : HasQ b) : HasQ (a ++ b) := fun t ht => by
  rcases List.mem_append.1 ht with ht | ht
  · exact h t ht
  · exact k t ht
theorem HasQ.one {t : ByteArray} (h0 : ¬ t = ⟨#[]⟩) (h : Form.dig1 t = false) : HasQ [t] := fun u hu => by
  obtain rfl := List.mem_singleton.1 hu
  exact ⟨h0, fun h' => by rw [h] at h'; cases h'⟩
theorem HasQ.atom {t : ByteArray} (h0 : ¬ t = ⟨#[]⟩) (h : t ∈ atomsB) : HasQ [t] := fun u hu => by
  obtain rfl := List.mem_singleton.1 hu
  exact ⟨h0, fun _ => h⟩
/-- what a text that begins another token must not begin with -/
def First (l : List UInt8) : Prop := ∃ c r, l = c :: r ∧ c ≠ 61 ∧ c ≠ 62
def NoEq (l : List UInt8) : Prop := ∀ d r, l = d :: r → d ≠ 61 ∧ d ≠ 62
theorem First.noeq {l m : List UInt8} (h : First l) : NoEq (l ++ m) := by
  obtain ⟨c, r, rfl, h1, h2⟩ := h
  intro d s e
  cases e
  exact ⟨h1, h2⟩
/-- an operator's text adds its token -/
structure OpT (o : List UInt8) (op : ByteArray) : Prop where
  text : Form.Adds o [op] NoEq
  bal : Form.Bal [op]
  has : HasQ [op]
theorem OpT.of {o : List UInt8} {op : ByteArray} (h : Form.Adds o [op] NoEq) (h1 : ¬ op = ⟨#[41]⟩) (h2 : ¬ op = ⟨#[40]⟩) (h3 : ¬ op = ⟨#[]⟩) (h4 : Form.dig1 op = false) : OpT o op := ⟨h, Form.Bal.one h1 h2, HasQ.one h3 h4⟩
theorem OpT.any {o : List UInt8} {op : ByteArray} (h : Form.Adds o [op] (fun _ => True)) (h1 : ¬ op = ⟨#[41]⟩) (h2 : ¬ op = ⟨#[40]⟩) (h3 : ¬ op = ⟨#[]⟩) (h4 : Form.dig1 op = false) : OpT o op := .of (h.weak (fun _ _ => trivial)) h1 h2 h3 h4
theorem op_one {c : UInt8} (h1 : Num.isD c = false) (h2 : ¬ (97 ≤ c ∧ c ≤ 122)) (h3 : c ≠ 60 ∧ c ≠ 62) (h4 : c ∈ Form.singles) (h5 : Form.blank c = false) (h6 : ¬ (⟨#[c]⟩ : ByteArray) = ⟨#[41]⟩) (h7 : ¬ (⟨#[c]⟩ : ByteArray) = ⟨#[40]⟩) : OpT [c] ⟨#[c]⟩ :=
  .any (Form.adds_one h1 h2 h3 h4 h5) h6 h7 (fun h => by have := congrArg ByteArray.size h; cases this) (by show Num.isD c = false; exact h1)
theorem op_bin {o : ByteArray} (h : o ∈ binsB) : ∃ op, OpT o.data.toList op ∧ ∀ l, Form.NoDig1 (o.data.toList ++ l) := by
  have nd : ∀ {c : UInt8} {r : List UInt8}, Num.isD c = false → c ≠ 46 → ∀ l, Form.NoDig1 ((c :: r) ++ l) := by
    intro c r h1 h2 l d s e
    cases e
    exact ⟨h1, h2⟩
  simp only [binsB, List.mem_cons, List.not_mem_nil, or_false] at h
  rcases h with rfl | rfl | rfl | rfl | rfl | rfl | rfl | rfl | rfl | rfl | rfl | rfl | rfl | rfl | rfl
  · exact ⟨_, op_one (c := 43) (by decide) (by decide) (by decide) (by decide) (by decide) (by decide) (by decide), nd (by decide) (by decide)⟩
  · exact ⟨_, op_one (c := 45) (by decide) (by decide) (by decide) (by decide) (by decide) (by decide) (by decide), nd (by decide) (by decide)⟩
  · exact ⟨_, op_one (c := 42) (by decide) (by decide) (by decide) (by decide) (by decide) (by decide) (by decide), nd (by decide) (by decide)⟩
  · exact ⟨_, op_one (c := 47) (by decide) (by decide) (by decide) (by decide) (by decide) (by decide) (by decide), nd (by decide) (by decide)⟩
  · exact ⟨_, .any (mid (a := [109, 111, 100]) (.inl (by decide))) (by decide) (by decide) (by decide) (by decide), nd (by decide) (by decide)⟩
  · exact ⟨_, op_one (c := 94) (by decide) (by decide) (by decide) (by decide) (by decide) (by decide) (by decide), nd (by decide) (by decide)⟩
  · exact ⟨_, .any (mid (a := [61]) (.inr (.inl rfl))) (by decide) (by decide) (by decide) (by decide), nd (by decide) (by decide)⟩
  · exact ⟨_, .any (Form.adds_pair (c := 60) (d := 62) (by decide)) (by decide) (by decide) (by decide) (by decide), nd (by decide) (by decide)⟩
  · exact ⟨_, .of (Form.adds_lt (c := 60) (.inl rfl)) (by decide) (by decide) (by decide) (by decide), nd (by decide) (by decide)⟩
  · refine ⟨⟨#[62]⟩, .any ?_ (by decide) (by decide) (by decide) (by decide), nd (by decide) (by decide)⟩
    exact (Form.adds_lt (c := 62) (.inr rfl)).app (Form.adds_blank (c := 32) (by decide)) (fun l _ d r e => by cases e; decide)
  · exact ⟨_, .any (Form.adds_pair (c := 60) (d := 61) (by decide)) (by decide) (by decide) (by decide) (by decide), nd (by decide) (by decide)⟩
  · exact ⟨_, .any (Form.adds_pair (c := 62) (d := 61) (by decide)) (by decide) (by decide) (by decide) (by decide), nd (by decide) (by decide)⟩
  · exact ⟨_, .any (mid (a := [97, 110, 100]) (.inl (by decide))) (by decide) (by decide) (by decide) (by decide), nd (by decide) (by decide)⟩
  · exact ⟨_, .any (mid (a := [111, 114]) (.inl (by decide))) (by decide) (by decide) (by decide) (by decide), nd (by decide) (by decide)⟩
  · exact ⟨_, .any (mid (a := [114, 111, 117, 110, 100]) (.inl (by decide))) (by decide) (by decide) (by decide) (by decide), nd (by decide) (by decide)⟩
theorem op_uni {o : ByteArray} (h : o ∈ unisB) : ∃ op, OpT o.data.toList op ∧ ∀ l, First (o.data.toList ++ l) := by
  have word : ∀ {a : List UInt8}, a ∈ Form.words → Form.Adds (a ++ [32]) [⟨a.toArray⟩] (fun _ => True) := fun h => (Form.adds_word h).app (Form.adds_blank (c := 32) (by decide)) (fun l _ d r e => by cases e; decide)
  simp only [unisB, List.mem_cons, List.not_mem_nil, or_false] at h
  rcases h with rfl | rfl | rfl | rfl
  · exact ⟨_, op_one (c := 45) (by decide) (by decide) (by decide) (by decide) (by decide) (by decide) (by decide), fun l => ⟨_, _, rfl, by decide, by decide⟩⟩
  · exact ⟨_, op_one (c := 43) (by decide) (by decide) (by decide) (by decide) (by decide) (by decide) (by decide), fun l => ⟨_, _, rfl, by decide, by decide⟩⟩
  · exact ⟨_, .any (word (a := [110, 111, 116]) (by decide)) (by decide) (by decide) (by decide) (by decide), fun l => ⟨_, _, rfl, by decide, by decide⟩⟩
  · exact ⟨_, .any (word (a := [102, 108, 111, 111, 114]) (by decide)) (by decide) (by decide) (by decide) (by decide), fun l => ⟨_, _, rfl, by decide, by decide⟩⟩
theorem list_app (a b : ByteArray) : (a ++ b).data.toList = a.data.toList ++ b.data.toList := by rw [ByteArray.data_append, Array.toList_append]
/-- how many tokens there are at most -/
def cnt : Nat → Nat
  | 0 => 1
  | n + 1 => 2 * cnt n + 1
theorem cnt_pos : ∀ n, 1 ≤ cnt n
  | 0 => Nat.le_refl _
  | n + 1 => by simp only [cnt]; omega
/-- the tokens of a built text -/
theorem bt_text {n : Nat} {s : ByteArray} (h : Bt n s) : ∃ ts, Form.Adds s.data.toList ts Form.NoDig1 ∧ Form.Bal ts ∧ HasQ ts ∧ First s.data.toList ∧ ts.length ≤ cnt n := by
  induction h with
  | @atom n a h =>
    have hq : ∀ {l : List UInt8}, ¬ (⟨l.toArray⟩ : ByteArray) = ⟨#[]⟩ → (⟨l.toArray⟩ : ByteArray) ∈ atomsB → HasQ [⟨l.toArray⟩] := fun h0 h => HasQ.atom h0 h
    have key : ∀ {l : List UInt8}, Form.Adds l [⟨l.toArray⟩] Form.NoDig1 → ¬ (⟨l.toArray⟩ : ByteArray) = ⟨#[]⟩ → ¬ (⟨l.toArray⟩ : ByteArray) = ⟨#[41]⟩ → ¬ (⟨l.toArray⟩ : ByteArray) = ⟨#[40]⟩ → (⟨l.toArray⟩ : ByteArray) ∈ atomsB → First l → ∃ ts, Form.Adds l ts Form.NoDig1 ∧ Form.Bal ts ∧ HasQ ts ∧ First l ∧ ts.length ≤ cnt n :=
      fun h1 h0 h2 h3 h4 h5 => ⟨_, h1, Form.Bal.one h2 h3, HasQ.atom h0 h4, h5, cnt_pos n⟩
    have ha := h
    simp only [atomsB, List.mem_cons, List.not_mem_nil, or_false] at h
    rcases h with rfl | rfl | rfl | rfl | rfl | rfl | rfl | rfl | rfl | rfl
    · exact key (l := [49]) (Form.adds_num (by decide) (by decide) (by decide)) (by decide) (by decide) (by decide) ha ⟨_, _, rfl, by decide, by decide⟩
    · exact key (l := [50]) (Form.adds_num (by decide) (by decide) (by decide)) (by decide) (by decide) (by decide) ha ⟨_, _, rfl, by decide, by decide⟩
    · exact key (l := [48]) (Form.adds_num (by decide) (by decide) (by decide)) (by decide) (by decide) (by decide) ha ⟨_, _, rfl, by decide, by decide⟩
    · exact key (l := [51, 46, 53]) (adds_dec (a := [51]) (b := [53]) (by decide) (by decide) (by decide) (by decide) (by decide) (by decide)) (by decide) (by decide) (by decide) ha ⟨_, _, rfl, by decide, by decide⟩
    · exact key (l := [49, 48]) (Form.adds_num (by decide) (by decide) (by decide)) (by decide) (by decide) (by decide) ha ⟨_, _, rfl, by decide, by decide⟩
    · exact key (l := [48, 46, 50, 53]) (adds_dec (a := [48]) (b := [50, 53]) (by decide) (by decide) (by decide) (by decide) (by decide) (by decide)) (by decide) (by decide) (by decide) ha ⟨_, _, rfl, by decide, by decide⟩
    · exact key (l := [55]) (Form.adds_num (by decide) (by decide) (by decide)) (by decide) (by decide) (by decide) ha ⟨_, _, rfl, by decide, by decide⟩
    · exact key (l := [49, 48, 48, 48, 48, 48]) (Form.adds_num (by decide) (by decide) (by decide)) (by decide) (by decide) (by decide) ha ⟨_, _, rfl, by decide, by decide⟩
    · exact key (l := [57, 57, 57, 57, 57, 57, 57, 57, 57]) (Form.adds_num (by decide) (by decide) (by decide)) (by decide) (by decide) (by decide) ha ⟨_, _, rfl, by decide, by decide⟩
    · exact key (l := [49, 46, 48, 48, 48, 48, 48, 48, 48, 48, 49]) (adds_dec (a := [49]) (b := [48, 48, 48, 48, 48, 48, 48, 48, 49]) (by decide) (by decide) (by decide) (by decide) (by decide) (by decide)) (by decide) (by decide) (by decide) ha ⟨_, _, rfl, by decide, by decide⟩
  | @par n s h ih =>
    obtain ⟨ts, h1, h2, h3, h4, h9⟩ := ih
    have hc := cnt_pos n
    have e : (⟨#[40]⟩ ++ s ++ ⟨#[41]⟩ : ByteArray).data.toList = [40] ++ (s.data.toList ++ [41]) := by rw [list_app, list_app]; simp
    have o1 := Form.adds_one (c := 40) (by decide) (by decide) (by decide) (by decide) (by decide)
    have o2 := Form.adds_one (c := 41) (by decide) (by decide) (by decide) (by decide) (by decide)
    have hq : HasQ ([⟨#[40]⟩] ++ (ts ++ [⟨#[41]⟩])) := (HasQ.one (by decide) (by decide)).app (h3.app (HasQ.one (by decide) (by decide)))
    refine ⟨[⟨#[40]⟩] ++ (ts ++ [⟨#[41]⟩]), ?_, h2.par, hq, ?_, by simp only [List.length_append, List.length_cons, List.length_nil, cnt]; omega⟩
    · rw [e]
      exact o1.app (h1.app (o2.weak (fun _ _ => trivial)) (fun l _ c r e => by cases e; decide)) (fun _ _ => trivial)
    · rw [e]
      exact ⟨_, _, rfl, by decide, by decide⟩
  | @un n o s ho h ih =>
    obtain ⟨ts, h1, h2, h3, h4, h9⟩ := ih
    obtain ⟨op, t, f⟩ := op_uni ho
    refine ⟨[op] ++ ts, ?_, t.bal.app h2, t.has.app h3, ?_, by simp only [List.length_append, List.length_cons, List.length_nil, cnt]; omega⟩
    · rw [list_app]
      exact t.text.app h1 (fun l _ => h4.noeq)
    · rw [list_app]
      exact f _
  | @bin n s o u h ho k ih1 ih2 =>
    obtain ⟨ts, h1, h2, h3, h4, h9⟩ := ih1
    obtain ⟨us, k1, k2, k3, k4, k9⟩ := ih2
    obtain ⟨op, t, f⟩ := op_bin ho
    have e : (s ++ o ++ u).data.toList = s.data.toList ++ (o.data.toList ++ u.data.toList) := by rw [list_app, list_app, List.append_assoc]
    refine ⟨ts ++ ([op] ++ us), ?_, h2.app (t.bal.app k2), h3.app (t.has.app k3), ?_, by simp only [List.length_append, List.length_cons, List.length_nil, cnt]; omega⟩
    · rw [e]
      exact h1.app (t.text.app k1 (fun l _ => k4.noeq)) (fun l _ => by rw [List.append_assoc]; exact f _)
    · rw [e]
      obtain ⟨c, r, h5, h6, h7⟩ := h4
      exact ⟨c, _, by rw [h5]; rfl, h6, h7⟩
end Go.Proofs.YtlkfnpmcihfjmaaDoor

namespace Go.Proofs.YtlkfnpmcihfjmaaDoor
open Go.RowKit
set_option linter.unusedVariables false

/-- a tree of known numbers -/
def TQV : Form.Tree → Prop
  | .num t => t ∈ atomsB ∨ t = ⟨#[]⟩
  | .un op a => ¬ op = ⟨#[]⟩ ∧ TQV a
  | .bin op a b => ¬ op = ⟨#[]⟩ ∧ TQV a ∧ TQV b
def jobQ : Form.Job → Prop
  | .lv _ => True
  | .loop _ a => TQV a
theorem HasQ.take {l ts : List ByteArray} {op : ByteArray} {r : List ByteArray} (hs : HasQ ts) (h : Form.take l ts = some (op, r)) : ¬ op = ⟨#[]⟩ ∧ HasQ r := by
  obtain ⟨-, -, e⟩ := Form.take_len h
  subst e
  exact ⟨(hs op List.mem_cons_self).1, fun t ht => hs t (List.mem_cons_of_mem _ ht)⟩
theorem HasQ.close {x : Form.Res} (h : HasQ x.rest) : HasQ (Form.close x).rest := by
  unfold Form.close
  split
  · exact h
  · split
    · exact h
    · rename_i ht; exact (h.take ht).2
theorem P_all (f : Nat) : ∀ (j : Form.Job) (ts : List ByteArray) (b : Bool) (r : Form.Res), Form.P f j ts b = some r → HasQ ts → jobQ j → TQV r.T ∧ HasQ r.rest := by
  induction f with
  | zero => intro j ts b r h; simp [Form.P] at h
  | succ f ih =>
    intro j ts b r h hs hj
    cases j with
    | loop n a =>
      rw [Form.P] at h
      split at h
      · simp only [Option.some.injEq] at h; subst h; exact ⟨hj, hs⟩
      · rename_i op u ht
        have hl := hs.take ht
        split at h
        · simp only [Option.some.injEq] at h; subst h; exact ⟨hj, hl.2⟩
        · split at h
          · cases h
          · rename_i s hs1
            have h1 := ih _ _ _ _ hs1 hl.2 trivial
            exact ih _ _ _ _ h h1.2 ⟨hl.1, hj, h1.1⟩
    | lv n =>
      rw [Form.P] at h
      split at h
      · split at h
        · cases h
        · rename_i x hx
          have h1 := ih _ _ _ _ hx hs trivial
          split at h
          · simp only [Option.some.injEq] at h; subst h; exact h1
          · rename_i op u ht
            have hl := h1.2.take ht
            split at h
            · cases h
            · rename_i y hy
              have h2 := ih _ _ _ _ hy hl.2 trivial
              simp only [Option.some.injEq] at h; subst h; exact ⟨⟨hl.1, h1.1, h2.1⟩, h2.2⟩
      · split at h
        · split at h
          · exact ih _ _ _ _ h hs trivial
          · rename_i op u ht
            have hl := hs.take ht
            split at h
            · cases h
            · rename_i y hy
              have h2 := ih _ _ _ _ hy hl.2 trivial
              simp only [Option.some.injEq] at h; subst h; exact ⟨⟨hl.1, h2.1⟩, h2.2⟩
        · split at h
          · split at h
            · cases h
            · rename_i x hx
              have h1 := ih _ _ _ _ hx hs trivial
              split at h
              · simp only [Option.some.injEq] at h; subst h; exact h1
              · rename_i op u ht
                have hl := h1.2.take ht
                split at h
                · cases h
                · rename_i y hy
                  have h2 := ih _ _ _ _ hy hl.2 trivial
                  simp only [Option.some.injEq] at h; subst h; exact ⟨⟨by decide, h1.1, h2.1⟩, h2.2⟩
          · split at h
            · split at h
              · rename_i hd
                simp only [Option.some.injEq] at h; subst h
                cases ts with
                | nil => simp at hd
                | cons t u => exact ⟨.inl ((hs t List.mem_cons_self).2 (by simpa using hd)), fun v hv => hs v (List.mem_cons_of_mem _ hv)⟩
              · split at h
                · simp only [Option.some.injEq] at h; subst h; exact ⟨.inr rfl, hs⟩
                · rename_i u hp
                  obtain ⟨-, rfl⟩ := Form.prim_some hp
                  split at h
                  · cases h
                  · rename_i y hy
                    have h2 := ih _ _ _ _ hy (fun t ht => hs t (List.mem_cons_of_mem _ ht)) trivial
                    simp only [Option.some.injEq] at h; subst h
                    refine ⟨?_, h2.2.close⟩
                    have : (Form.close y).T = .un ⟨#[40]⟩ y.T := by
                      unfold Form.close
                      split
                      · rfl
                      · split <;> rfl
                    rw [this]
                    exact ⟨by decide, h2.1⟩
            · split at h
              · cases h
              · rename_i x hx
                have h1 := ih _ _ _ _ hx hs trivial
                exact ih _ _ _ _ h h1.2 h1.1
theorem val_there : ∀ T : Form.Tree, TQV T → ∃ r, Val T r ∧ ErrV r
  | .num t, h => by
    rcases h with h | h
    · obtain ⟨r, a, b, c⟩ := num_atom h
      exact ⟨r, .num a b, c⟩
    · subst h
      exact ⟨_, .num parse_emp (fun h => by cases h), .inr rfl⟩
  | .un op a, h => by
    obtain ⟨r, k, -⟩ := val_there a h.2
    exact ⟨_, .un h.1 k, err_ite (fun _ => err_sign _ _ _) (fun _ => err_no _)⟩
  | .bin op a b, h => by
    obtain ⟨r, k, -⟩ := val_there a h.2.1
    obtain ⟨s, l, -⟩ := val_there b h.2.2
    exact ⟨_, .bin h.1 k l, err_ite (fun _ => err_ite (fun _ => err_apply _ _ _ _ _) (fun _ => err_no _)) (fun _ => err_no _)⟩
theorem val_par {T : Form.Tree} {r : Int × Int × Int} (h : Val T r) (hr : ErrV r) : Val (.un ⟨#[40]⟩ T) r := by
  have k := Val.un (op := ⟨#[40]⟩) (by decide) h
  by_cases h0 : r.2.2 = 0
  · rw [if_pos h0] at k
    have e : signV ⟨#[40]⟩ r.1 r.2.1 = r := by
      unfold signV
      rw [if_neg (by decide), if_neg (by decide), if_neg (by decide), ← h0]
    rwa [e] at k
  · rw [if_neg h0] at k
    rcases hr with hr | hr
    · exact absurd hr h0
    · rwa [← hr] at k
/-- a list of bytes as a text -/
theorem list_of (s : ByteArray) (l : List UInt8) (h : s.data.toList = l) : s = ⟨l.toArray⟩ := by
  apply ByteArray.ext
  apply Array.toList_inj.1
  exact h
theorem eval_three {s : ByteArray} (h : Bt 3 s) : ∃ r, EvalR s r ∧ EvalR (⟨#[32, 10]⟩ ++ s ++ ⟨#[9, 32]⟩) r ∧ EvalR (⟨#[40]⟩ ++ s ++ ⟨#[41]⟩) r := by
  obtain ⟨ts, ha, hb, hq, -, hlen⟩ := bt_text h
  have hlen : ts.length ≤ 15 := hlen
  have hsz := h.size
  have hm : btMax 3 ≤ 150 := by decide
  have ht : Form.tokens s.data.toList = some ts := ha.whole (fun c r h => by cases h)
  have e1 : (⟨#[32, 10]⟩ ++ s ++ ⟨#[9, 32]⟩ : ByteArray).data.toList = [32, 10] ++ s.data.toList ++ [9, 32] := by rw [list_app, list_app]
  have e2 : (⟨#[40]⟩ ++ s ++ ⟨#[41]⟩ : ByteArray).data.toList = [40] ++ s.data.toList ++ [41] := by rw [list_app, list_app]
  have t1 : Form.tokens (⟨#[32, 10]⟩ ++ s ++ ⟨#[9, 32]⟩ : ByteArray).data.toList = some ts := by rw [e1, Form.tokens_blanks, ht]
  have t2 : Form.tokens (⟨#[40]⟩ ++ s ++ ⟨#[41]⟩ : ByteArray).data.toList = some (⟨#[40]⟩ :: (ts ++ [⟨#[41]⟩])) := by rw [e2, Form.tokens_par, ht]; rfl
  have z1 : (⟨#[32, 10]⟩ ++ s ++ ⟨#[9, 32]⟩ : ByteArray).size ≤ 400 := by
    simp only [ByteArray.size_append]
    have : (⟨#[32, 10]⟩ : ByteArray).size = 2 := rfl
    have : (⟨#[9, 32]⟩ : ByteArray).size = 2 := rfl
    omega
  have z2 : (⟨#[40]⟩ ++ s ++ ⟨#[41]⟩ : ByteArray).size ≤ 400 := by
    simp only [ByteArray.size_append]
    have : (⟨#[40]⟩ : ByteArray).size = 1 := rfl
    have : (⟨#[41]⟩ : ByteArray).size = 1 := rfl
    omega
  have z0 : s.size ≤ 400 := by omega
  obtain ⟨f, x, hx, -⟩ := (Form.P_total ts.length).1 8 ts false (Nat.le_refl _) (Nat.le_refl _)
  have hx : Form.P f (.lv 0) ts false = some x := hx
  obtain ⟨p1, p2⟩ := Form.par_read hb hx
  obtain ⟨T, rest, b⟩ := x
  simp only at p1 p2
  by_cases hg : b = false ∧ rest = []
  · obtain ⟨rfl, rfl⟩ := hg
    obtain ⟨F, hF⟩ := p1 rfl rfl
    have htq := (P_all f _ _ _ _ hx hq trivial).1
    obtain ⟨r, hv, hr⟩ := val_there T htq
    have hlv := Form.P_levels _ _ _ _ _ hx
    simp only [Form.jobL, List.length_nil] at hlv
    refine ⟨r, .val z0 ht hx (by omega) hv, .val z1 t1 hx (by omega) hv, .val z2 t2 hF ?_ (val_par hv hr)⟩
    simp only [Form.Tree.levels]
    omega
  · obtain ⟨F, R, hF, hR⟩ := p2 hg
    have hbad : (⟨T, rest, b⟩ : Form.Res).bad = true ∨ (⟨T, rest, b⟩ : Form.Res).rest ≠ [] := by
      cases b with
      | true => exact .inl rfl
      | false => exact .inr (fun h => hg ⟨rfl, h⟩)
    exact ⟨_, .bad z0 ht hx hbad, .bad z1 t1 hx hbad, .bad z2 t2 hF (.inl hR)⟩
end Go.Proofs.YtlkfnpmcihfjmaaDoor

namespace Go.Proofs.YtlkfnpmcihfjmaaDoor
open Go.RowKit
set_option linter.unusedVariables false

theorem newTape (a : Option Addr) (len cap : Nat) (w : World) :
    Calls Tryd.prog 20 #[.slice a len cap] w fun e w' => e = .returned (.pointer (some ⟨w.heap.size, 0, none⟩)) ∧ w.alloc (.cells #[.slice a len cap, .int .i64 0] 60) = w' := by
  go_enter Tryd.func20, Tryd.ntmps20
  go_wp2_with fail
  go_ret
  exact ⟨rfl, rfl⟩
set_option maxHeartbeats 2000000 in
theorem law_blanks (a : Option Addr) (len cap : Nat) (zs : List Int) (w : World) (hz : IsInts w a len cap zs) :
    Calls Tryd.prog 4 #[.slice a len cap] w fun e w' => e = .returned (.bool true) ∧ Below w.heap.size w w' := by
  have hK := known_any
  have hN := newTape a len cap w
  have hT := built_any.1 w.heap.size _ (TP.made hz)
  have b0 := below_new0 w (.cells #[.slice a len cap, .int .i64 0] 60)
  have hT2 : Calls Tryd.prog 19 #[.pointer (some ⟨w.heap.size, 0, none⟩), .int .i64 3] _ _ := hT
  clear hT hz
  go_enter Tryd.func4, Tryd.ntmps4
  go_wp2_with fail
  refine hN.mono ?_
  rintro e w0 ⟨rfl, rfl⟩
  clear hN
  go_wp2_with fail
  refine hT2.mono ?_
  rintro e w1 ⟨s, rfl, hs, st, -⟩
  have hsz := hs.size
  have hsz2 : s.size ≤ 150 := Nat.le_trans hsz (by decide)
  obtain ⟨⟨x, y, z⟩, r1, r2, r3⟩ := eval_three hs
  have z1 : (⟨#[32, 10]⟩ ++ s ++ ⟨#[9, 32]⟩ : ByteArray).size ≤ 1000000 := by
    simp only [ByteArray.size_append]
    have : (⟨#[32, 10]⟩ : ByteArray).size = 2 := rfl
    have : (⟨#[9, 32]⟩ : ByteArray).size = 2 := rfl
    omega
  have z2 : (⟨#[40]⟩ ++ s ++ ⟨#[41]⟩ : ByteArray).size ≤ 1000000 := by
    simp only [ByteArray.size_append]
    have : (⟨#[40]⟩ : ByteArray).size = 1 := rfl
    have : (⟨#[41]⟩ : ByteArray).size = 1 := rfl
    omega
  have h1 := eval_any (by omega) r1
  have h2 := eval_any z1 r2
  have h3 := eval_any z2 r3
  unfold Ret at h1 h2 h3
  simp only at h1 h2 h3
  have hb0 := b0.trans (st.below.mono (Nat.le_refl _))
  clear hT2 hs hsz st r1 r2 r3 z1 z2
  go_wp2_with fail
  refine (h1 _).mono ?_
  rintro e w2 ⟨rfl, hb2⟩
  have hbA := (hb0.then_ hb2).then_ (below_new0 w2 (.cells #[.int .i64 x, .int .i64 y] 23))
  have KA := Known.made w2 23 #[.int .i64 x, .int .i64 y]
  clear h1
  go_wp2_with fail
  refine (h2 _).mono ?_
  rintro e w3 ⟨rfl, hb3⟩
  have hbB := (hbA.then_ hb3).then_ (below_new0 w3 (.cells #[.int .i64 x, .int .i64 y] 23))
  have KA2 := (KA.on hb3).alloc (.cells #[.int .i64 x, .int .i64 y] 23)
  have KB := Known.made w3 23 #[.int .i64 x, .int .i64 y]
  have hlt := (KA.on hb3).lt
  clear h2
  go_wp2_with fail
  refine (h3 _).mono ?_
  rintro e w4 ⟨rfl, hb4⟩
  have hbC := (hbB.then_ hb4).then_ (below_new0 w4 (.cells #[.int .i64 x, .int .i64 y] 23))
  have KA3 := (KA2.on hb4).alloc (.cells #[.int .i64 x, .int .i64 y] 23)
  have KB3 := (KB.on hb4).alloc (.cells #[.int .i64 x, .int .i64 y] 23)
  have KC := Known.made w4 23 #[.int .i64 x, .int .i64 y]
  have hl2 := (KA2.on hb4).lt
  have hl3 := (KB.on hb4).lt
  obtain ⟨a0, a1⟩ := KA3.two
  obtain ⟨b0, b1⟩ := KB3.two
  obtain ⟨c0, c1⟩ := KC.two
  clear h3 KA KA2 KB hbA hbB KA3 KB3 KC
  go_wp2_with fail
  refine (hK _).mono ?_
  rintro e w5 ⟨rfl, hb5⟩
  clear hK
  go_wp2_with fail
  go_ret
  exact ⟨rfl, hbC.then_ hb5⟩
end Go.Proofs.YtlkfnpmcihfjmaaDoor
