/-
  A formula's text is divided into tokens. Conditions: those typed in each theorem.
-/
import Derived.Test.YtlkfnpmcihfjmaaDoorBlk
import Derived.Maps.AppendAt
import Derived.OwnWalk
import Derived.Lib.AtoiAll

namespace Go.Proofs.YtlkfnpmcihfjmaaDoor
open Go.RowKit Go.Maps
set_option linter.unusedVariables false

theorem infoS : (Tryd.prog.info? 9).map (fun i => (i.zero, i.size, i.bytes)) = some (some (.string ByteArray.empty), 1, 16) := by kernel_rfl
/-- what the division leaves: the tokens in a row of the call's own; or nothing -/
def ScanPost (w : World) (o : Option (List ByteArray)) (e : Ending) (w' : World) : Prop :=
  Below w.heap.size w w' ∧ match o with
  | none => e = .returned (.tuple #[.slice none 0 0, .bool false])
  | some ts => ∃ v, e = .returned (.tuple #[v, .bool true]) ∧ w'.ownsRow w.heap.size 9 1 v ts.length (ts.map Value.string)
theorem emp_of_size {s : ByteArray} (h : s.size = 0) : s.data.toList = [] := List.eq_nil_of_length_eq_zero (by simpa using h)
theorem blank_iff (c : UInt8) : Form.blank c = true ↔ (c.toNat = 32 ∨ c.toNat = 9 ∨ c.toNat = 10) := by
  unfold Form.blank
  simp only [Bool.or_eq_true, beq_iff_eq, ← UInt8.toNat_inj]
  have e1 : (32 : UInt8).toNat = 32 := rfl
  have e2 : (9 : UInt8).toNat = 9 := rfl
  have e3 : (10 : UInt8).toNat = 10 := rfl
  omega
theorem list_cons {s : ByteArray} (h : 0 < s.size) : s.data.toList = s[0] :: s.data.toList.drop 1 := by
  have h1 : 0 < s.data.toList.length := by simpa using h
  rw [Num.at_list s 0 h]
  exact (List.getElem_cons_drop h1).symm
theorem map_app (o : Option (List ByteArray)) (acc : List ByteArray) (t : ByteArray) : (o.map (t :: ·)).map (acc ++ ·) = o.map ((acc ++ [t]) ++ ·) := by
  cases o <;> simp

set_option maxRecDepth 10000 in
set_option maxHeartbeats 4000000 in
theorem scan_any (s : ByteArray) (w : World) (hs : s.size ≤ 1000) :
    Calls Tryd.prog 22 #[.string s] w (ScanPost w (Form.tokens s.data.toList)) := by
  obtain ⟨i0, hi, hz0, hz1, hz2⟩ := info_parts infoS
  generalize hO : Form.tokens s.data.toList = O
  go_enter Tryd.func22, Tryd.ntmps22
  go_wp2_with fail
  go_loopg [0, 4, 5] (s.size + 1) (fun q s0 s4 s5 wr => ∃ (rest : ByteArray) (acc : List ByteArray), rest.size < q ∧ acc.length + rest.size ≤ 1000 ∧ s0 = .string rest ∧ wr.ownsRow w.heap.size 9 1 s4 acc.length (acc.map Value.string)
    ∧ Below w.heap.size w wr ∧ O = (Form.tokens rest.data.toList).map (acc ++ ·))
  case atStart => exact ⟨s, [], by omega, by simpa using hs, rfl, World.ownsRow_nil _ _ _ _, Below.refl _ _, by rw [← hO]; cases Form.tokens s.data.toList <;> simp⟩
  case round =>
    obtain ⟨rest, acc, hq, hlen, rfl, hown, hb, hev⟩ := hrel
    have HE := Lib.hid hev
    clear hev hO hs
    by_cases h0 : rest.size = 0
    · have n1 : rest.toList.isEmpty = true := by rw [ByteArray.toList_eq, emp_of_size h0]; rfl
      have HO := Lib.hid hown
      clear hown
      go_wp2_with fail
      go_ret2
      refine ⟨hb, ?_⟩
      rw [HE.out, emp_of_size h0, Form.tokens_nil]
      simp only [Option.map_some, List.append_nil]
      exact ⟨_, rfl, HO.out⟩
    · have n1 : rest.toList.isEmpty = false := str_emp (fun e => h0 (by rw [e]; rfl))
      have h0' : 0 < rest.size := by omega
      have hc := list_cons h0'
      by_cases hbl : Form.blank rest[0] = true
      · have e1 : (rest.extract 1 rest.size).data.toList = rest.data.toList.drop 1 := by simp [List.take_of_length_le]
        have e2 : (rest.extract 1 rest.size).size = rest.size - 1 := by rw [ByteArray.size_extract]; omega
        have HE2 : Hid (O = (Form.tokens (rest.extract 1 rest.size).data.toList).map (acc ++ ·)) := Lib.hid (by rw [HE.out, e1]; conv => lhs; rw [hc, Form.tokens_blank hbl])
        have HO := Lib.hid hown
        clear hown hc e1 HE
        rcases (blank_iff _).1 hbl with h | h | h
        · have b1 : ((rest[0].toNat : Int) == 32) = true := by simp; omega
          clear h hbl
          go_wp2_with fail
          go_roundg (rest.size - 1 + 1)
          case measure => omega
          case rel => exact ⟨_, acc, by rw [e2]; omega, by rw [e2]; omega, rfl, HO.out, hb, HE2.out⟩
        · have b1 : ((rest[0].toNat : Int) == 32) = false := by simp; omega
          have b2 : ((rest[0].toNat : Int) == 9) = true := by simp; omega
          clear h hbl
          go_wp2_with fail
          go_roundg (rest.size - 1 + 1)
          case measure => omega
          case rel => exact ⟨_, acc, by rw [e2]; omega, by rw [e2]; omega, rfl, HO.out, hb, HE2.out⟩
        · have b1 : ((rest[0].toNat : Int) == 32) = false := by simp; omega
          have b2 : ((rest[0].toNat : Int) == 9) = false := by simp; omega
          have b3 : ((rest[0].toNat : Int) == 10) = true := by simp; omega
          clear h hbl
          go_wp2_with fail
          go_roundg (rest.size - 1 + 1)
          case measure => omega
          case rel => exact ⟨_, acc, by rw [e2]; omega, by rw [e2]; omega, rfl, HO.out, hb, HE2.out⟩
      · have hnb := mt (blank_iff _).2 hbl
        have hbl' : Form.blank rest[0] = false := by simpa using hbl
        have b1 : ((rest[0].toNat : Int) == 32) = false := by simp; omega
        have b2 : ((rest[0].toNat : Int) == 9) = false := by simp; omega
        have b3 : ((rest[0].toNat : Int) == 10) = false := by simp; omega
        have hN := fun w => next_any rest w (by omega) h0'
        have hle := Form.next_le rest.data.toList
        have hle' : Form.next rest.data.toList ≤ rest.size := by simpa using hle
        unfold NextR at hN
        by_cases hn : Form.next rest.data.toList = 0
        · rw [hn] at hN
          have HE2 : Hid (O = none) := Lib.hid (by rw [HE.out, hc, Form.tokens_none hbl' (by rw [← hc]; exact hn)]; rfl)
          clear hown HE hc hbl hbl' hnb hle hle' hn
          go_wp2_with fail
          refine (hN _).mono ?_
          rintro e w1 ⟨rfl, rfl⟩
          go_wp2_with fail
          go_ret2
          refine ⟨hb, ?_⟩
          rw [HE2.out]
          exact rfl
        · obtain ⟨n, hne⟩ : ∃ n, Form.next rest.data.toList = n := ⟨_, rfl⟩
          rw [hne] at hN hle' hn
          obtain ⟨tok, htok⟩ : ∃ tok, rest.extract 0 n = tok := ⟨_, rfl⟩
          obtain ⟨tl, htl⟩ : ∃ tl, rest.extract n rest.size = tl := ⟨_, rfl⟩
          have e1 : tl.data.toList = rest.data.toList.drop n := by rw [← htl]; simp [List.take_of_length_le]
          have e2 : tl.size = rest.size - n := by rw [← htl, ByteArray.size_extract]; omega
          have e3 : (⟨(rest.data.toList.take n).toArray⟩ : ByteArray) = tok := by rw [← htok]; apply ByteArray.ext; apply Array.toList_inj.1; simp
          have HE2 : Hid (O = (Form.tokens tl.data.toList).map ((acc ++ [tok]) ++ ·)) := Lib.hid (by
            rw [HE.out, ← map_app, e1, ← e3, ← hne]
            congr 1
            conv => lhs; rw [hc, Form.tokens_some hbl' (by rw [← hc, hne]; exact hn)]
            rw [← hc])
          have HT := Lib.hid htok
          have HL := Lib.hid htl
          clear HE hc hbl hbl' hnb hle e1 e3 hne
          have hsz := hb.size
          go_wp2_with fail
          refine (hN _).mono ?_
          rintro e w1 ⟨rfl, rfl⟩
          go_wp2_with (at_builtin; refine wpList_append_own _ rfl _ _ 28 rfl w.heap.size 9 i0 (.string ByteArray.empty) 1 16 Tryd.underlying28 hi hz0 hz1 hz2 rfl (by decide) _ _ _ rfl (hown.alloc _) ⟨wr.heap.size, 0, none⟩ 1 1 [.string tok] rfl rfl (cell_one_new _ _ _) (fun x hx => by simp at hx; subst hx; rfl) (by unfold maxLen; omega) (by omega) (by simp; omega) ?_; intro v' w3 hown' hgrow3 hnil3)
          go_roundg (tl.size + 1)
          case measure => omega
          case rel => exact ⟨tl, acc ++ [tok], by omega, by simp; omega, rfl, by simpa using hown', (hb.alloc hsz _).grown hgrow3 (by simp; omega) (fun q hq => (hown.lt q hq).1), HE2.out⟩
end Go.Proofs.YtlkfnpmcihfjmaaDoor
