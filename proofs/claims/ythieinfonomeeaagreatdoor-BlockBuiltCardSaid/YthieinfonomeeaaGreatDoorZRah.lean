/-
  The claim's own texts, packed. Conditions: those typed in each theorem.
-/
import Derived.Test.YthieinfonomeeaaGreatDoorZRag
import Derived.Test.YthieinfonomeeaaGreatDoorZAbb
import Derived.Test.YthieinfonomeeaaGreatDoorZPab
import Derived.Test.YthieinfonomeeaaGreatDoorZPac
namespace Go.Proofs.YthieinfonomeeaaGreatDoor
open Go.RowKit Doc Tit Inl Blk
set_option linter.unusedVariables false
attribute [local go_sem ↓] Go.wp_at_zero Go.wp_at_succ
set_option maxRecDepth 10000 in
set_option maxHeartbeats 2000000 in
theorem law_parse (s : ByteArray) (w : World) (hm : MX w) : Calls Tryz.prog 3 #[.string s] w fun e w' => e = .returned (.bool true) ∧ Below w.heap.size w w' := by
 have HM := Lib.hid hm
 have hKN := fun (W : World) (hb : Below w.heap.size w W) => bknown_any W (HM.out.below hb)
 have HKN := Lib.hid hKN
 clear hKN hm
 by_cases hs : s.size ≤ 600
 ·have g1 : decide ((600 : Int) < (s.size : Int)) = false := decide_eq_false (by omega)
  have hP := pbparse_any s w (by omega) HM.out
  have hR := fun W => rbparse_any s W (by omega)
  have hz := blocks_size s.data.toList
  have hl : s.data.toList.length = s.size := by simp
  obtain ⟨B, hB⟩ : ∃ B, blocks s.data.toList = B := ⟨_, rfl⟩
  simp only [hB] at hP hR hz
  have hBz : B.size ≤ 1000000 := by omega
  have HP := Lib.hid hP
  have HR := Lib.hid hR
  clear hP hR hz hl hB
  go_enter Tryz.func3, Tryz.ntmps3
  go_wp2_with fail
  refine HP.out.mono ?_
  rintro e w1 ⟨p1, c1, rfl, hs1, hb1⟩
  have HS1 := Lib.hid hs1
  clear hs1
  go_wp2_with fail
  refine (HR.out _).mono ?_
  rintro e w2 ⟨p2, c2, rfl, hs2, hb2⟩
  have hs3 := blsS.sl_on HS1.out (Kept.below hb2)
  have hSM := bsame_any (B.size + 1) _ _ B p1 c1 p2 c2 w2 (Nat.lt_succ_self _) hBz hs3 hs2
  have HSM := Lib.hid hSM
  have hb12 := below_then hb1 hb2
  have HB := Lib.hid hb12
  clear hs2 hs3 hSM hb1 hb2 hb12
  go_wp2_with fail
  refine HSM.out.mono ?_
  rintro e w3 ⟨rfl, hb3⟩
  have hb13 := below_then HB.out hb3
  go_wp2_with fail
  refine (HKN.out _ hb13).mono ?_
  rintro e w4 ⟨rfl, hb4⟩
  go_wp2_with fail
  go_ret
  exact ⟨rfl, below_then hb13 hb4⟩
 ·have g1 : decide ((600 : Int) < (s.size : Int)) = true := decide_eq_true (by omega)
  go_enter Tryz.func3, Tryz.ntmps3
  go_wp2_with fail
  refine (HKN.out _ (Below.refl _ _)).mono ?_
  rintro e w2 ⟨rfl, hb2⟩
  go_wp2_with fail
  go_ret
  exact ⟨rfl, hb2⟩
end Go.Proofs.YthieinfonomeeaaGreatDoor
