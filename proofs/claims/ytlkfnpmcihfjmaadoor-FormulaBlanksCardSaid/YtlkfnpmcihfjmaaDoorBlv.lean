/-
  The small functions of texts with digits, by the program and by the reference. Conditions: those typed in each theorem.
-/
import Derived.Test.YtlkfnpmcihfjmaaDoorBla
import Derived.Test.YtlkfnpmcihfjmaaDoorBls

namespace Go.Proofs.YtlkfnpmcihfjmaaDoor
open Go.RowKit

set_option maxHeartbeats 1000000 in
theorem digitsP (s : ByteArray) (w : World) (hs : s.size ≤ 1000) :
    Calls Tryd.prog 57 #[.string s] w fun e w' => e = .returned (.int .i64 (Num.endD s 0)) ∧ w = w' := by
  have hle := Num.endD_le s 0 (by omega)
  have hin := fun k => Num.endD_in s 0 k (by omega)
  have hend := Num.endD_end s 0
  generalize Num.endD s 0 = L at *
  go_enter Tryd.func57, Tryd.ntmps57
  go_wp2_with fail
  go_loopg [3] (L + 1) (fun g s3 wr => ∃ k : Nat, k ≤ L ∧ L - k < g ∧ s3 = .int .i64 k ∧ w = wr)
  case atStart => exact ⟨0, by omega, by omega, rfl, rfl⟩
  case round =>
    obtain ⟨k, hk, hg, rfl, rfl⟩ := hrel
    by_cases h : k < L
    · obtain ⟨h1, h2, h3⟩ := hin k h
      clear hin hend
      have g2 : decide (48 ≤ s[k].toNat) = true := by simpa using h2
      have g3 : decide (s[k].toNat ≤ 57) = true := by simpa using h3
      go_wp2_with fail
      go_roundg (L - (k + 1) + 1)
      case measure => omega
      case rel => exact ⟨k + 1, by omega, by omega, rfl, rfl⟩
    · obtain rfl : k = L := by omega
      clear hin
      by_cases h1 : k < s.size
      · have h2 := hend h1
        clear hend
        by_cases h3 : s[k].toNat < 48
        · have g2 : decide (48 ≤ s[k].toNat) = false := by simpa using h3
          go_wp2_with fail
          go_ret
          exact ⟨rfl, rfl⟩
        · have g2 : decide (48 ≤ s[k].toNat) = true := by simpa using h3
          have g3 : decide (s[k].toNat ≤ 57) = false := by simp; omega
          go_wp2_with fail
          go_ret
          exact ⟨rfl, rfl⟩
      · clear hend
        go_wp2_with fail
        go_ret
        exact ⟨rfl, rfl⟩

end Go.Proofs.YtlkfnpmcihfjmaaDoor
