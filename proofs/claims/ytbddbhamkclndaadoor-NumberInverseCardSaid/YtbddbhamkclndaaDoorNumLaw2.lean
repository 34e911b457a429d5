/-
  The law NumberInverse, walked. Conditions: those typed in each theorem.
-/
import Derived.Test.YtbddbhamkclndaaDoorNumOf
namespace Go.Proofs.YtbddbhamkclndaaDoor
open Go.RowKit

set_option maxHeartbeats 4000000 in
theorem law_inverse (a b c d : Int) (w : World) :
    Calls Tryd.prog 9 #[.int .i64 a, .int .i64 b, .int .i64 c, .int .i64 d] w fun e w' => e = .returned (.bool true) ∧ Below w.heap.size w w' := by
  obtain ⟨x1, x2, sx, hx⟩ := of_any a b
  obtain ⟨y1, y2, sy, hy⟩ := of_any c d
  obtain ⟨p, q, e1, v1, k1⟩ := add_fine sx sy
  obtain ⟨m, n, e2, v2, k2⟩ := mul_fine sx sy
  have ix := val_i64 sx.1
  have iy := val_i64 sy.1
  have ip := val_i64 v1
  have im := val_i64 v2
  have A1 : Ret3 28 x1 x2 y1 y2 p q 0 := (addP_any _ _ _ _ ix.1 ix.2 iy.1 iy.2).to3 e1
  have A2 : Ret3 30 p q y1 y2 x1 x2 0 := (subP_any _ _ _ _ ip.1 ip.2 iy.1 iy.2).to3 (sub_of_add sx.1 sy.1 v1 k1)
  have A3 : Ret3 29 x1 x2 y1 y2 m n 0 := (mulP_any _ _ _ _ ix.1 ix.2 iy.1 iy.2).to3 e2
  by_cases hc : y1 = 0
  · subst hc
    have A4 : Ret3 33 m n 0 y2 0 0 16 := (divP_any _ _ _ _ im.1 im.2 iy.1 iy.2).to3 (div_zero v2 sy.1)
    clear e1 e2 k1 k2 v1 v2 sx sy ix iy ip im
    go_enter Tryd.func9, Tryd.ntmps9
    go_wp2_with fail
    refine (hx _).mono ?_
    rintro e w1 ⟨rfl, hb1⟩
    have hb := hb1
    go_wp2_with fail
    refine (hy _).mono ?_
    rintro e w2 ⟨rfl, hb2⟩
    replace hb := hb.then_ hb2
    replace hb := hb.then_ (below_new0 _ (.cells #[.int .i64 x1, .int .i64 x2] 23))
    have Kx := Known.made w2 23 #[.int .i64 x1, .int .i64 x2]
    replace hb := hb.then_ (below_new0 _ (.cells #[.int .i64 0, .int .i64 y2] 23))
    replace Kx := Kx.alloc (.cells #[.int .i64 0, .int .i64 y2] 23)
    have Ky := Known.made2 w2 23 #[.int .i64 0, .int .i64 y2] (.cells #[.int .i64 x1, .int .i64 x2] 23)
    obtain ⟨cx0, cx1⟩ := Kx.two
    obtain ⟨cy0, cy1⟩ := Ky.two
    go_wp2_with fail
    refine (A1 _).mono ?_
    rintro e w3 ⟨rfl, hb3⟩
    replace hb := hb.then_ hb3
    replace Kx := Kx.on hb3
    replace Ky := Ky.on hb3
    replace hb := hb.then_ (below_new0 _ (.cells #[.int .i64 p, .int .i64 q] 23))
    replace Kx := Kx.alloc (.cells #[.int .i64 p, .int .i64 q] 23)
    replace Ky := Ky.alloc (.cells #[.int .i64 p, .int .i64 q] 23)
    have Ks := Known.made w3 23 #[.int .i64 p, .int .i64 q]
    clear cx0 cx1 cy0 cy1
    obtain ⟨cx0, cx1⟩ := Kx.two
    obtain ⟨cy0, cy1⟩ := Ky.two
    obtain ⟨cs0, cs1⟩ := Ks.two
    go_wp2_with fail
    refine (A2 _).mono ?_
    rintro e w4 ⟨rfl, hb4⟩
    replace hb := hb.then_ hb4
    replace Kx := Kx.on hb4
    replace Ky := Ky.on hb4
    replace Ks := Ks.on hb4
    replace hb := hb.then_ (below_new0 _ (.cells #[.int .i64 x1, .int .i64 x2] 23))
    replace Kx := Kx.alloc (.cells #[.int .i64 x1, .int .i64 x2] 23)
    replace Ky := Ky.alloc (.cells #[.int .i64 x1, .int .i64 x2] 23)
    replace Ks := Ks.alloc (.cells #[.int .i64 x1, .int .i64 x2] 23)
    have Kt := Known.made w4 23 #[.int .i64 x1, .int .i64 x2]
    clear cx0 cx1 cy0 cy1 cs0 cs1
    obtain ⟨cx0, cx1⟩ := Kx.two
    obtain ⟨cy0, cy1⟩ := Ky.two
    obtain ⟨cs0, cs1⟩ := Ks.two
    obtain ⟨ct0, ct1⟩ := Kt.two
    go_wp2_with fail
    refine (A3 _).mono ?_
    rintro e w5 ⟨rfl, hb5⟩
    replace hb := hb.then_ hb5
    replace Kx := Kx.on hb5
    replace Ky := Ky.on hb5
    replace Ks := Ks.on hb5
    replace Kt := Kt.on hb5
    replace hb := hb.then_ (below_new0 _ (.cells #[.int .i64 m, .int .i64 n] 23))
    replace Kx := Kx.alloc (.cells #[.int .i64 m, .int .i64 n] 23)
    replace Ky := Ky.alloc (.cells #[.int .i64 m, .int .i64 n] 23)
    replace Ks := Ks.alloc (.cells #[.int .i64 m, .int .i64 n] 23)
    replace Kt := Kt.alloc (.cells #[.int .i64 m, .int .i64 n] 23)
    have Km := Known.made w5 23 #[.int .i64 m, .int .i64 n]
    clear cx0 cx1 cy0 cy1 cs0 cs1 ct0 ct1
    obtain ⟨cx0, cx1⟩ := Kx.two
    obtain ⟨cy0, cy1⟩ := Ky.two
    obtain ⟨cs0, cs1⟩ := Ks.two
    obtain ⟨ct0, ct1⟩ := Kt.two
    obtain ⟨cm0, cm1⟩ := Km.two
    clear Ks cs0 cs1
    go_wp2_with fail
    refine (A4 _).mono ?_
    rintro e w6 ⟨rfl, hb6⟩
    replace hb := hb.then_ hb6
    replace Kx := Kx.on hb6
    replace Ky := Ky.on hb6
    replace Kt := Kt.on hb6
    replace Km := Km.on hb6
    replace hb := hb.then_ (below_new0 _ (.cells #[.int .i64 0, .int .i64 0] 23))
    replace Kx := Kx.alloc (.cells #[.int .i64 0, .int .i64 0] 23)
    replace Ky := Ky.alloc (.cells #[.int .i64 0, .int .i64 0] 23)
    replace Kt := Kt.alloc (.cells #[.int .i64 0, .int .i64 0] 23)
    replace Km := Km.alloc (.cells #[.int .i64 0, .int .i64 0] 23)
    have Kn := Known.made w6 23 #[.int .i64 0, .int .i64 0]
    clear cx0 cx1 cy0 cy1 ct0 ct1 cm0 cm1
    obtain ⟨cx0, cx1⟩ := Kx.two
    obtain ⟨cy0, cy1⟩ := Ky.two
    obtain ⟨ct0, ct1⟩ := Kt.two
    obtain ⟨cm0, cm1⟩ := Km.two
    obtain ⟨cn0, cn1⟩ := Kn.two
    go_wp2_with fail
    refine (known_any _).mono ?_
    rintro e w7 ⟨rfl, hb7⟩
    go_wp2
    go_ret
    exact ⟨rfl, hb.then_ hb7⟩
  · have A4 : Ret3 33 m n y1 y2 x1 x2 0 := (divP_any _ _ _ _ im.1 im.2 iy.1 iy.2).to3 (div_of_mul sx.1 sy.1 v2 hc k2)
    have hc' : (y1 == 0) = false := by simpa using hc
    clear e1 e2 k1 k2 v1 v2 sx sy ix iy ip im
    go_enter Tryd.func9, Tryd.ntmps9
    go_wp2_with fail
    refine (hx _).mono ?_
    rintro e w1 ⟨rfl, hb1⟩
    have hb := hb1
    go_wp2_with fail
    refine (hy _).mono ?_
    rintro e w2 ⟨rfl, hb2⟩
    replace hb := hb.then_ hb2
    replace hb := hb.then_ (below_new0 _ (.cells #[.int .i64 x1, .int .i64 x2] 23))
    have Kx := Known.made w2 23 #[.int .i64 x1, .int .i64 x2]
    replace hb := hb.then_ (below_new0 _ (.cells #[.int .i64 y1, .int .i64 y2] 23))
    replace Kx := Kx.alloc (.cells #[.int .i64 y1, .int .i64 y2] 23)
    have Ky := Known.made2 w2 23 #[.int .i64 y1, .int .i64 y2] (.cells #[.int .i64 x1, .int .i64 x2] 23)
    obtain ⟨cx0, cx1⟩ := Kx.two
    obtain ⟨cy0, cy1⟩ := Ky.two
    go_wp2_with fail
    refine (A1 _).mono ?_
    rintro e w3 ⟨rfl, hb3⟩
    replace hb := hb.then_ hb3
    replace Kx := Kx.on hb3
    replace Ky := Ky.on hb3
    replace hb := hb.then_ (below_new0 _ (.cells #[.int .i64 p, .int .i64 q] 23))
    replace Kx := Kx.alloc (.cells #[.int .i64 p, .int .i64 q] 23)
    replace Ky := Ky.alloc (.cells #[.int .i64 p, .int .i64 q] 23)
    have Ks := Known.made w3 23 #[.int .i64 p, .int .i64 q]
    clear cx0 cx1 cy0 cy1
    obtain ⟨cx0, cx1⟩ := Kx.two
    obtain ⟨cy0, cy1⟩ := Ky.two
    obtain ⟨cs0, cs1⟩ := Ks.two
    go_wp2_with fail
    refine (A2 _).mono ?_
    rintro e w4 ⟨rfl, hb4⟩
    replace hb := hb.then_ hb4
    replace Kx := Kx.on hb4
    replace Ky := Ky.on hb4
    replace Ks := Ks.on hb4
    replace hb := hb.then_ (below_new0 _ (.cells #[.int .i64 x1, .int .i64 x2] 23))
    replace Kx := Kx.alloc (.cells #[.int .i64 x1, .int .i64 x2] 23)
    replace Ky := Ky.alloc (.cells #[.int .i64 x1, .int .i64 x2] 23)
    replace Ks := Ks.alloc (.cells #[.int .i64 x1, .int .i64 x2] 23)
    have Kt := Known.made w4 23 #[.int .i64 x1, .int .i64 x2]
    clear cx0 cx1 cy0 cy1 cs0 cs1
    obtain ⟨cx0, cx1⟩ := Kx.two
    obtain ⟨cy0, cy1⟩ := Ky.two
    obtain ⟨cs0, cs1⟩ := Ks.two
    obtain ⟨ct0, ct1⟩ := Kt.two
    go_wp2_with fail
    refine (A3 _).mono ?_
    rintro e w5 ⟨rfl, hb5⟩
    replace hb := hb.then_ hb5
    replace Kx := Kx.on hb5
    replace Ky := Ky.on hb5
    replace Ks := Ks.on hb5
    replace Kt := Kt.on hb5
    replace hb := hb.then_ (below_new0 _ (.cells #[.int .i64 m, .int .i64 n] 23))
    replace Kx := Kx.alloc (.cells #[.int .i64 m, .int .i64 n] 23)
    replace Ky := Ky.alloc (.cells #[.int .i64 m, .int .i64 n] 23)
    replace Ks := Ks.alloc (.cells #[.int .i64 m, .int .i64 n] 23)
    replace Kt := Kt.alloc (.cells #[.int .i64 m, .int .i64 n] 23)
    have Km := Known.made w5 23 #[.int .i64 m, .int .i64 n]
    clear cx0 cx1 cy0 cy1 cs0 cs1 ct0 ct1
    obtain ⟨cx0, cx1⟩ := Kx.two
    obtain ⟨cy0, cy1⟩ := Ky.two
    obtain ⟨cs0, cs1⟩ := Ks.two
    obtain ⟨ct0, ct1⟩ := Kt.two
    obtain ⟨cm0, cm1⟩ := Km.two
    clear Ks cs0 cs1
    go_wp2_with fail
    refine (A4 _).mono ?_
    rintro e w6 ⟨rfl, hb6⟩
    replace hb := hb.then_ hb6
    replace Kx := Kx.on hb6
    replace Ky := Ky.on hb6
    replace Kt := Kt.on hb6
    replace Km := Km.on hb6
    replace hb := hb.then_ (below_new0 _ (.cells #[.int .i64 x1, .int .i64 x2] 23))
    replace Kx := Kx.alloc (.cells #[.int .i64 x1, .int .i64 x2] 23)
    replace Ky := Ky.alloc (.cells #[.int .i64 x1, .int .i64 x2] 23)
    replace Kt := Kt.alloc (.cells #[.int .i64 x1, .int .i64 x2] 23)
    replace Km := Km.alloc (.cells #[.int .i64 x1, .int .i64 x2] 23)
    have Kn := Known.made w6 23 #[.int .i64 x1, .int .i64 x2]
    clear cx0 cx1 cy0 cy1 ct0 ct1 cm0 cm1
    obtain ⟨cx0, cx1⟩ := Kx.two
    obtain ⟨cy0, cy1⟩ := Ky.two
    obtain ⟨ct0, ct1⟩ := Kt.two
    obtain ⟨cm0, cm1⟩ := Km.two
    obtain ⟨cn0, cn1⟩ := Kn.two
    go_wp2_with fail
    refine (known_any _).mono ?_
    rintro e w7 ⟨rfl, hb7⟩
    go_wp2
    go_ret
    exact ⟨rfl, hb.then_ hb7⟩
end Go.Proofs.YtbddbhamkclndaaDoor
