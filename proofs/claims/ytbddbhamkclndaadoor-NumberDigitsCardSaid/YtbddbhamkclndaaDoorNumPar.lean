/-
  Parse: one number for all texts, by the program and by the reference; the law NumberParse. Conditions: those typed in each theorem.
-/
import Derived.Test.YtbddbhamkclndaaDoorNumParP1
import Derived.Test.YtbddbhamkclndaaDoorNumParP2
import Derived.Test.YtbddbhamkclndaaDoorNumParR0
import Derived.Test.YtbddbhamkclndaaDoorNumParR1
import Derived.Test.YtbddbhamkclndaaDoorNumParR2
import Derived.Test.YtbddbhamkclndaaDoorNumBoth
import Derived.Test.YtbddbhamkclndaaDoorNumKnown3
namespace Go.Proofs.YtbddbhamkclndaaDoor
open Go.RowKit

theorem ext_list (s : ByteArray) (i j : Nat) : (s.extract i j).data.toList = (s.data.toList.take j).drop i := by
  rw [ByteArray.data_extract, Array.toList_extract, List.extract_eq_take_drop]
  rw [List.drop_take]
theorem list_len (s : ByteArray) : s.data.toList.length = s.size := by simp
theorem endD_all {s : ByteArray} (h : Num.endD s 0 = s.size) : ∀ c ∈ s.data.toList, Num.isD c = true := by
  unfold Num.endD at h
  rw [List.drop_zero] at h
  exact Num.all_lead (by rw [list_len]; omega)

theorem byte_ne {c : UInt8} (h : c ≠ 46) : ¬ (c.toNat : Int) = 46 := by
  intro h'
  exact h (UInt8.toNat_inj.1 (show c.toNat = (46 : UInt8).toNat by have : (46 : UInt8).toNat = 46 := rfl; omega))

/-- how a text behind its sign reads: nothing, or a numeral and how many digits stand behind the point -/
inductive Reads (R : ByteArray) : Option (Nat × Nat) → Prop
  | a1 (h : Lib.indexByte R.data.toList 46 = -1) (hd : Num.endD R 0 < R.size) (hn : ¬ ((R[Num.endD R 0]'hd).toNat : Int) = 46) : Reads R none
  | a2 (h : Lib.indexByte R.data.toList 46 = -1) (hd : Num.endD R 0 = R.size) (h9 : 9 < R.size) : Reads R none
  | a3 (h : Lib.indexByte R.data.toList 46 = -1) (h0 : R.size = 0) : Reads R none
  | a4 (h : Lib.indexByte R.data.toList 46 = -1) (hd : Num.endD R 0 = R.size) (h9 : R.size ≤ 9) (h1 : 0 < R.size) : Reads R (some (Num.value 0 R.data.toList, 0))
  | d1 (p : Nat) (h : Lib.indexByte R.data.toList 46 = p) (hp : p < R.size) (hc : (R[p].toNat : Int) = 46) (he : Num.endD R 0 < p) (hw : Num.endD (R.extract 0 p) 0 < p) (hn : ¬ ((R[Num.endD R 0]'(by omega)).toNat : Int) = 46) : Reads R none
  | d2 (p : Nat) (h : Lib.indexByte R.data.toList 46 = p) (hp : p < R.size) (hc : (R[p].toNat : Int) = 46) (he : Num.endD R 0 = p) (hw : Num.endD (R.extract 0 p) 0 = p) (k : Nat) (hk : Num.endD R (p + 1) = k)
      (hq : k = p + 1 + Num.endD (R.extract (p + 1) R.size) 0) (bad : k < R.size ∨ 9 < p ∨ R.size = p + 1 ∨ p + 1 + 9 < R.size) : Reads R none
  | d3 (p : Nat) (h : Lib.indexByte R.data.toList 46 = p) (hp : p < R.size) (hc : (R[p].toNat : Int) = 46) (he : Num.endD R 0 = p) (hw : Num.endD (R.extract 0 p) 0 = p) (hk : Num.endD R (p + 1) = R.size)
      (hq : R.size = p + 1 + Num.endD (R.extract (p + 1) R.size) 0) (h9 : p ≤ 9) (q : Nat) (hz : R.size = p + 1 + q) (q1 : 0 < q) (q9 : q ≤ 9) : Reads R (some (Num.value 0 ((R.extract 0 p).data.toList ++ (R.extract (p + 1) R.size).data.toList), q))

theorem reads_any (R : ByteArray) : ∃ o, Reads R o := by
  have hl := list_len R
  have hle := Num.endD_le R 0 (by omega)
  rcases index_cases R.data.toList with ⟨h, hno⟩ | ⟨p, hp, h, hc, hno⟩
  · by_cases hd : Num.endD R 0 < R.size
    · exact ⟨_, .a1 h hd (by rw [Num.at_list R _ hd]; exact byte_ne (hno _ (List.getElem_mem _)))⟩
    by_cases h0 : R.size = 0
    · exact ⟨_, .a3 h h0⟩
    by_cases h9 : 9 < R.size
    · exact ⟨_, .a2 h (by omega) h9⟩
    · exact ⟨_, .a4 h (by omega) (by omega) (by omega)⟩
  · have hp' : p < R.size := by omega
    have hc' : (R[p].toNat : Int) = 46 := by rw [Num.at_list R p hp', hc]; rfl
    have eW : (R.extract 0 p).data.toList = R.data.toList.take p := by rw [ext_list, List.drop_zero]
    have eQ : (R.extract (p + 1) R.size).data.toList = R.data.toList.drop (p + 1) := by rw [ext_list, List.take_of_length_le (by omega)]
    -- the digits at the front end at the point or ahead of it
    have hep : Num.endD R 0 ≤ p := by
      rcases Nat.lt_or_ge p (Num.endD R 0) with h' | h'
      · obtain ⟨_, h1, h2⟩ := Num.endD_in R 0 p (by omega) h'
        omega
      · exact h'
    have sp : R.data.toList = R.data.toList.take p ++ R.data.toList.drop p := (List.take_append_drop p _).symm
    have hlt : (R.data.toList.take p).length = p := by rw [List.length_take]; omega
    have lW : Num.endD (R.extract 0 p) 0 = Num.endD R 0 := by
      unfold Num.endD
      rw [List.drop_zero, List.drop_zero, eW]
      by_cases hall : Num.lead (R.data.toList.take p) = p
      · have h1 : ∀ c ∈ R.data.toList.take p, Num.isD c = true := Num.all_lead (by rw [hlt]; exact hall)
        have h2 : Num.lead (R.data.toList.drop p) = 0 := by
          rw [List.drop_eq_getElem_cons hp, hc]
          rfl
        have h3 : Num.lead R.data.toList = p := by
          rw [sp, Num.lead_app h1, hlt, h2, Nat.add_zero]
        omega
      · have hlt2 : Num.lead (R.data.toList.take p) < (R.data.toList.take p).length := by
          have := Num.lead_le (R.data.toList.take p)
          omega
        have h1 := Num.lead_end _ hlt2
        have h2 := Num.lead_in (R.data.toList.take p)
        have key : Num.lead R.data.toList = Num.lead (R.data.toList.take p) := by
          have g1 : R.data.toList.take (Num.lead (R.data.toList.take p)) = (R.data.toList.take p).take (Num.lead (R.data.toList.take p)) := by
            rw [List.take_take]; congr 1; omega
          have g2 : ∀ c ∈ R.data.toList.take (Num.lead (R.data.toList.take p)), Num.isD c = true := by
            rw [g1]
            intro c hcm
            obtain ⟨j, hj, rfl⟩ := List.mem_iff_getElem.1 hcm
            rw [List.getElem_take]
            exact (h2 j (by rw [List.length_take] at hj; omega)).2
          have g3 : R.data.toList.drop (Num.lead (R.data.toList.take p)) = R.data.toList[Num.lead (R.data.toList.take p)]'(by omega) :: R.data.toList.drop (Num.lead (R.data.toList.take p) + 1) := List.drop_eq_getElem_cons (by omega)
          have g4 : Num.isD (R.data.toList[Num.lead (R.data.toList.take p)]'(by omega)) = false := by
            rw [List.getElem_take] at h1
            exact h1
          have g5 : Num.lead (R.data.toList.drop (Num.lead (R.data.toList.take p))) = 0 := by
            rw [g3, Num.lead, if_neg (by rw [g4]; simp)]
          conv => lhs; rw [← List.take_append_drop (Num.lead (R.data.toList.take p)) R.data.toList]
          rw [Num.lead_app g2, g5, List.length_take]
          omega
        omega
    have lQ : Num.endD R (p + 1) = p + 1 + Num.endD (R.extract (p + 1) R.size) 0 := by
      unfold Num.endD
      rw [List.drop_zero, eQ]
      omega
    have lk := Num.endD_le R (p + 1) (by omega)
    by_cases he : Num.endD R 0 < p
    · refine ⟨_, .d1 p h hp' hc' he (by rw [lW]; exact he) ?_⟩
      have hh : Num.endD R 0 < R.size := by omega
      rw [Num.at_list R _ hh]
      refine byte_ne (hno _ ?_)
      rw [List.mem_take_iff_getElem]
      exact ⟨Num.endD R 0, by omega, rfl⟩
    have he' : Num.endD R 0 = p := by omega
    by_cases bad : Num.endD R (p + 1) < R.size ∨ 9 < p ∨ R.size = p + 1 ∨ p + 1 + 9 < R.size
    · exact ⟨_, .d2 p h hp' hc' he' (by rw [lW]; exact he') _ rfl lQ bad⟩
    · exact ⟨_, .d3 p h hp' hc' he' (by rw [lW]; exact he') (by omega) (by omega) (by omega) (R.size - (p + 1)) (by omega) (by omega) (by omega)⟩
end Go.Proofs.YtbddbhamkclndaaDoor
