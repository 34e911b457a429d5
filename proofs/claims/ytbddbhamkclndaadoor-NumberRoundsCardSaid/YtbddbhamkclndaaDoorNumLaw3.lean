/-
  The law NumberRounds, walked. Conditions: those typed in each theorem.
-/
import Derived.Test.YtbddbhamkclndaaDoorNumOf
namespace Go.Proofs.YtbddbhamkclndaaDoor
open Go.RowKit

set_option maxHeartbeats 4000000 in
theorem law_rounds (a b k : Int) (w : World) (i1 : I64 a) (i2 : I64 b) :
    Calls Tryd.prog 5 #[.agg #[.int .i64 a, .int .i64 b], .int .i64 k] w fun e w' => e = .returned (.bool true) ∧ Below w.heap.size w w' := by
  have A1 := fun w => floorP_any a b w i1 i2
  have A2 := fun w => floorR_any a b w i1 i2
  have A3 := roundP_any a b k i1 i2
  have A4 := roundR_any a b k i1 i2
  unfold Ret at A3 A4
  generalize floorV a b = r at *
  generalize roundV a b k = s at *
  obtain ⟨p, q⟩ := r
  obtain ⟨x, y, z⟩ := s
  simp only at A1 A2 A3 A4
  go_enter Tryd.func5, Tryd.ntmps5
  have Kn := Known.made w 23 #[.int .i64 a, .int .i64 b]
  have hb := (below_new0 w (.cells #[.int .i64 a, .int .i64 b] 23))
  obtain ⟨cn0, cn1⟩ := Kn.two
  go_wp2_with fail
  refine (A1 _).mono ?_
  rintro e w1 ⟨rfl, hb1⟩
  replace hb := hb.then_ hb1
  replace Kn := Kn.on hb1
  clear cn0 cn1
  obtain ⟨cn0, cn1⟩ := Kn.two
  clear cn0 cn1
  obtain ⟨cn0, cn1⟩ := Kn.two
  go_wp2_with fail
  refine (A2 _).mono ?_
  rintro e w2 ⟨rfl, hb2⟩
  replace hb := hb.then_ hb2
  replace Kn := Kn.on hb2
  clear cn0 cn1
  obtain ⟨cn0, cn1⟩ := Kn.two
  clear cn0 cn1
  obtain ⟨cn0, cn1⟩ := Kn.two
  go_wp2_with fail
  refine (A3 _).mono ?_
  rintro e w3 ⟨rfl, hb3⟩
  replace hb := hb.then_ hb3
  replace Kn := Kn.on hb3
  replace hb := hb.then_ (below_new0 _ (.cells #[.int .i64 x, .int .i64 y] 23))
  replace Kn := Kn.alloc (.cells #[.int .i64 x, .int .i64 y] 23)
  have Kx := Known.made w3 23 #[.int .i64 x, .int .i64 y]
  clear cn0 cn1
  obtain ⟨cn0, cn1⟩ := Kn.two
  obtain ⟨cx0, cx1⟩ := Kx.two
  go_wp2_with fail
  refine (A4 _).mono ?_
  rintro e w4 ⟨rfl, hb4⟩
  replace hb := hb.then_ hb4
  replace Kn := Kn.on hb4
  replace Kx := Kx.on hb4
  replace hb := hb.then_ (below_new0 _ (.cells #[.int .i64 x, .int .i64 y] 23))
  replace Kn := Kn.alloc (.cells #[.int .i64 x, .int .i64 y] 23)
  replace Kx := Kx.alloc (.cells #[.int .i64 x, .int .i64 y] 23)
  have Ky := Known.made w4 23 #[.int .i64 x, .int .i64 y]
  clear cn0 cn1 cx0 cx1
  obtain ⟨cn0, cn1⟩ := Kn.two
  obtain ⟨cx0, cx1⟩ := Kx.two
  obtain ⟨cy0, cy1⟩ := Ky.two
  go_wp2_with fail
  refine (known_any _).mono ?_
  rintro e w5 ⟨rfl, hb5⟩
  go_wp2
  go_ret
  exact ⟨rfl, hb.then_ hb5⟩
end Go.Proofs.YtbddbhamkclndaaDoor
