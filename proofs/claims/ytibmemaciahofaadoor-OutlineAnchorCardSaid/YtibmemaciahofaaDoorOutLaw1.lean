/-
  The law OutlineAnchor: for every text the program and the reference give the same anchor. Condition: the library's table of powers of ten as it is laid.
-/
import Derived.Test.YtibmemaciahofaaDoorOutKnown
namespace Go.Proofs.YtibmemaciahofaaDoor
open Go.RowKit
set_option linter.unusedVariables false

set_option maxRecDepth 10000 in
set_option maxHeartbeats 1000000 in
theorem law_anchor (s : ByteArray) (w : World) (ht : Tab w) : Calls Tryd.prog 3 #[.string s] w fun e w' => e = .returned (.bool true) ∧ Below w.heap.size w w' := by
  have HT := Lib.hid ht
  clear ht
  by_cases hs : s.size ≤ 300
  · have h1 := fun W => anchor_any s W (by omega)
    have h2 := fun W => anchorR_any s W (by omega)
    generalize (⟨(Anc.anchor s.data.toList).toArray⟩ : ByteArray) = T at *
    have g0 : decide (300 < (s.size : Int)) = false := by simp; omega
    go_enter Tryd.func3, Tryd.ntmps3
    go_wp2_with fail
    refine (h1 _).mono ?_
    rintro e w1 ⟨rfl, hb1⟩
    go_wp2_with fail
    refine (h2 _).mono ?_
    rintro e w2 ⟨rfl, hb2⟩
    have hb := below_then hb1 hb2
    go_wp2_with fail
    refine (known_any _ (HT.out.on hb)).mono ?_
    rintro e w3 ⟨rfl, hb3⟩
    go_wp2_with fail
    go_ret
    exact ⟨rfl, below_then hb hb3⟩
  · have g0 : decide (300 < (s.size : Int)) = true := by simp; omega
    go_enter Tryd.func3, Tryd.ntmps3
    go_wp2_with fail
    go_ret
    exact ⟨rfl, Below.refl _ _⟩
end Go.Proofs.YtibmemaciahofaaDoor
