/-
  strings.Cut at a point. Conditions: those typed in each theorem.
-/
import Derived.Test.YtlkfnpmcihfjmaaDoorNumDig
import Derived.Lib.AtoiErrMem
namespace Go.Proofs.YtlkfnpmcihfjmaaDoor
open Go.RowKit

set_option maxHeartbeats 1000000 in
theorem lite_no (s : ByteArray) (w : World) (h : Lib.indexByte s.data.toList 46 = -1) :
    Calls Tryd.prog 78 #[.string s, .string ⟨#[46]⟩] w fun e w' => e = .returned (.tuple #[.string s, .string ⟨#[]⟩, .bool false]) ∧ Below w.heap.size w w' := by
  have hI := fun w => Tryd.stringslite_Index_one s 46 w
  rw [h] at hI
  go_enter Tryd.func78, Tryd.ntmps78
  go_wp2_with fail
  refine (hI _).mono ?_
  rintro e w1 ⟨rfl, rfl⟩
  go_wp2_with fail
  exact bodyPost_ret (v := .tuple #[.string s, .string ⟨#[]⟩, .bool false]) (by simp [results, Tryd.results78, go_sem]) rfl ⟨rfl, Below.refl _ _⟩
set_option maxHeartbeats 1000000 in
theorem lite_at (s : ByteArray) (p : Nat) (w : World) (h : Lib.indexByte s.data.toList 46 = p) (hp : p < s.size) (hs : s.size ≤ 1000) :
    Calls Tryd.prog 78 #[.string s, .string ⟨#[46]⟩] w fun e w' => e = .returned (.tuple #[.string (s.extract 0 p), .string (s.extract (p + 1) s.size), .bool true]) ∧ Below w.heap.size w w' := by
  have hI := fun w => Tryd.stringslite_Index_one s 46 w
  rw [h] at hI
  go_enter Tryd.func78, Tryd.ntmps78
  go_wp2_with fail
  refine (hI _).mono ?_
  rintro e w1 ⟨rfl, rfl⟩
  go_wp2_with fail
  go_region
  all_goals (try go_wp2_with fail)
  exact bodyPost_ret (v := .tuple #[.string (s.extract 0 p), .string (s.extract (p + 1) s.size), .bool true]) (by simp [results, Tryd.results78, go_sem]) rfl ⟨rfl, (Below.refl _ _).drew⟩
theorem cut_no (s : ByteArray) (w : World) (h : Lib.indexByte s.data.toList 46 = -1) :
    Calls Tryd.prog 56 #[.string s, .string ⟨#[46]⟩] w fun e w' => e = .returned (.tuple #[.string s, .string ⟨#[]⟩, .bool false]) ∧ Below w.heap.size w w' := by
  go_enter Tryd.func56, Tryd.ntmps56
  go_wp2_with fail
  refine (lite_no s _ h).mono ?_
  rintro e w1 ⟨rfl, hb⟩
  go_wp2_with fail
  exact bodyPost_ret (v := .tuple #[.string s, .string ⟨#[]⟩, .bool false]) (by simp [results, Tryd.results56, go_sem]) rfl ⟨rfl, hb⟩
theorem cut_at (s : ByteArray) (p : Nat) (w : World) (h : Lib.indexByte s.data.toList 46 = p) (hp : p < s.size) (hs : s.size ≤ 1000) :
    Calls Tryd.prog 56 #[.string s, .string ⟨#[46]⟩] w fun e w' => e = .returned (.tuple #[.string (s.extract 0 p), .string (s.extract (p + 1) s.size), .bool true]) ∧ Below w.heap.size w w' := by
  go_enter Tryd.func56, Tryd.ntmps56
  go_wp2_with fail
  refine (lite_at s p _ h hp hs).mono ?_
  rintro e w1 ⟨rfl, hb⟩
  go_wp2_with fail
  exact bodyPost_ret (v := .tuple #[.string (s.extract 0 p), .string (s.extract (p + 1) s.size), .bool true]) (by simp [results, Tryd.results56, go_sem]) rfl ⟨rfl, hb⟩
/-- where the first point stands -/
theorem index_cases : ∀ l : List UInt8, Lib.indexByte l 46 = -1 ∧ (∀ c ∈ l, c ≠ 46) ∨ ∃ p, ∃ h : p < l.length, Lib.indexByte l 46 = (p : Int) ∧ l[p] = 46 ∧ ∀ c ∈ l.take p, c ≠ 46
  | [] => .inl ⟨rfl, by simp⟩
  | b :: r => by
    by_cases hb : b = 46
    · exact .inr ⟨0, by simp, by simp [Lib.indexByte, hb], by simpa using hb, by simp⟩
    · rcases index_cases r with ⟨h1, h2⟩ | ⟨p, hp, h1, h2, h3⟩
      · refine .inl ⟨by simp [Lib.indexByte, hb, h1], ?_⟩
        intro c hc
        rcases List.mem_cons.1 hc with rfl | hc
        · exact hb
        · exact h2 c hc
      · refine .inr ⟨p + 1, by simp <;> omega, ?_, by simpa using h2, ?_⟩
        · have : ((p : Int) == -1) = false := by simp <;> omega
          simp [Lib.indexByte, hb, h1, this]
        · intro c hc
          rw [List.take_succ_cons] at hc
          rcases List.mem_cons.1 hc with rfl | hc
          · exact hb
          · exact h3 c hc
theorem atoi_any (l : List UInt8) (w : World) (h : ∀ c ∈ l, Num.isD c = true) (hl : l.length ≤ 18) :
    Calls Tryd.prog 58 #[.string ⟨(48 :: l).toArray⟩] w fun e w' => e = .returned (.tuple #[.int .i64 (Num.value 0 l), .nilIface]) ∧ Below w.heap.size w w' := by
  refine (Tryd.strconv_Atoi_ok ⟨(48 :: l).toArray⟩ (by rw [size_mk]; simp <;> omega) (Num.value 0 l) (Num.atoi_digits l h hl) w).mono ?_
  rintro e w' ⟨rfl, rfl | ⟨t, rfl⟩⟩
  · exact ⟨rfl, Below.refl _ _⟩
  · exact ⟨rfl, Lib.bytesWorld_below _ _ _⟩
end Go.Proofs.YtlkfnpmcihfjmaaDoor
