/-
  The law FormulaBuilt, walked: it answers true, and writes nothing that was there. No conditions but those typed in each theorem.
-/
import Derived.Test.YtlkfnpmcihfjmaaGreatDoorEvbg
import Derived.Test.YtlkfnpmcihfjmaaGreatDoorBuc

namespace Go.Proofs.YtlkfnpmcihfjmaaGreatDoor
open Go.RowKit
set_option linter.unusedVariables false

theorem new_any (a : Option Addr) (len cap : Nat) (w : World) :
    Calls Tryz.prog 9 #[.slice a len cap] w fun e w' => e = .returned (.pointer (some ⟨w.heap.size, 0, none⟩)) ∧ w.alloc (.cells #[.slice a len cap, .int .i64 0] 54) = w' := by
  go_enter Tryz.func9, Tryz.ntmps9
  go_wp2_with fail
  go_ret
  exact ⟨rfl, rfl⟩
set_option maxHeartbeats 1000000 in
theorem law_built (a : Option Addr) (len cap : Nat) (zs : List Int) (w : World) (hz : IsInts w a len cap zs) :
    Calls Tryz.prog 4 #[.slice a len cap] w fun e w' => e = .returned (.bool true) ∧ Below w.heap.size w w' := by
  have hK := known_any
  have hN := new_any a len cap w
  have hT := built_any.2 w.heap.size _ (TP.made hz)
  have b0 := below_new0 w (.cells #[.slice a len cap, .int .i64 0] 54)
  have hT2 : Calls Tryz.prog 8 #[.pointer (some ⟨w.heap.size, 0, none⟩), .int .i64 4] _ _ := hT
  clear hT hz
  go_enter Tryz.func4, Tryz.ntmps4
  go_wp2_with fail
  refine hN.mono ?_
  rintro e w0 ⟨rfl, rfl⟩
  clear hN
  go_wp2_with fail
  refine hT2.mono ?_
  rintro e w1 ⟨s, rfl, hs, st, -⟩
  have hsz := hs.size
  obtain ⟨r, h1, h2⟩ := eval_both s (by have : btMax 4 ≤ 300 := by decide
                                        omega)
  unfold Ret at h1 h2
  obtain ⟨x, y, z⟩ := r
  simp only at h1 h2
  have hb0 := b0.trans (st.below.mono (Nat.le_refl _))
  clear hT2 hs hsz st
  go_wp2_with fail
  refine (h1 _).mono ?_
  rintro e w2 ⟨rfl, hb2⟩
  have hbA := (hb0.then_ hb2).then_ (below_new0 w2 (.cells #[.int .i64 x, .int .i64 y] 24))
  have KA := Known.made w2 24 #[.int .i64 x, .int .i64 y]
  clear h1
  go_wp2_with fail
  refine (h2 _).mono ?_
  rintro e w3 ⟨rfl, hb3⟩
  have hbB := (hbA.then_ hb3).then_ (below_new0 w3 (.cells #[.int .i64 x, .int .i64 y] 24))
  have KA2 := (KA.on hb3).alloc (.cells #[.int .i64 x, .int .i64 y] 24)
  have KB := Known.made w3 24 #[.int .i64 x, .int .i64 y]
  obtain ⟨a0, a1⟩ := KA2.two
  obtain ⟨b0, b1⟩ := KB.two
  have hlt := (KA.on hb3).lt
  clear h2 KA KA2 KB hbA
  go_wp2_with fail
  refine (hK _).mono ?_
  rintro e w4 ⟨rfl, hb4⟩
  clear hK
  go_wp2_with fail
  go_ret
  exact ⟨rfl, hbB.then_ hb4⟩
end Go.Proofs.YtlkfnpmcihfjmaaGreatDoor
