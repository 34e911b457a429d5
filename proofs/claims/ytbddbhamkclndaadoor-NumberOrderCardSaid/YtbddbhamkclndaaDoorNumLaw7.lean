/-
  The law NumberOrder, walked. Conditions: those typed in each theorem.
-/
import Derived.Test.YtbddbhamkclndaaDoorNumOf
namespace Go.Proofs.YtbddbhamkclndaaDoor
open Go.RowKit

set_option maxHeartbeats 4000000 in
theorem law_order (a b c d e f : Int) (w : World) :
    Calls Tryd.prog 7 #[.int .i64 a, .int .i64 b, .int .i64 c, .int .i64 d, .int .i64 e, .int .i64 f] w fun e w' => e = .returned (.bool true) ∧ Below w.heap.size w w' := by
  obtain ⟨x1, x2, sx, hx⟩ := of_any a d
  obtain ⟨y1, y2, sy, hy⟩ := of_any b e
  obtain ⟨z1, z2, sz, hz⟩ := of_any c f
  obtain ⟨s1, s2, es, vs, _⟩ := add_fine sx sz
  obtain ⟨t1, t2, et, vt, _⟩ := add_fine sy sz
  have ix := val_i64 sx.1
  have iy := val_i64 sy.1
  have iz := val_i64 sz.1
  have is := val_i64 vs
  have it := val_i64 vt
  have C1 := cmp_any x1 x2 y1 y2 ix.1 ix.2 iy.1 iy.2
  have C2 := cmp_any y1 y2 x1 x2 iy.1 iy.2 ix.1 ix.2
  have C3 := cmp_any y1 y2 z1 z2 iy.1 iy.2 iz.1 iz.2
  have C4 := cmp_any x1 x2 z1 z2 ix.1 ix.2 iz.1 iz.2
  have C5 := cmp_any s1 s2 t1 t2 is.1 is.2 it.1 it.2
  have A1 : Ret3 28 x1 x2 z1 z2 s1 s2 0 := (addP_any _ _ _ _ ix.1 ix.2 iz.1 iz.2).to3 es
  have A2 : Ret3 28 y1 y2 z1 z2 t1 t2 0 := (addP_any _ _ _ _ iy.1 iy.2 iz.1 iz.2).to3 et
  rw [cmp_add sx.1 sy.1 sz.1 (s1, s2, 0) (t1, t2, 0) es.symm et.symm rfl rfl] at C5
  rw [cmp_neg sy.1 sx.1] at C2
  have hz0 := cmp_zero sx.1 sy.1
  have htr := cmp_trans sx.1 sy.1 sz.1
  have hr := cmpN_range x1 x2 y1 y2
  have hr2 := cmpN_range y1 y2 z1 z2
  generalize cmpN x1 x2 y1 y2 = k at *
  generalize cmpN y1 y2 z1 z2 = m at *
  generalize cmpN x1 x2 z1 z2 = n at *
  clear es et vs vt ix iy iz is it sx sy sz
  rename_i r1 r2
  clear r1 r2
  by_cases hk : k = 0
  · obtain ⟨rfl, rfl⟩ := hz0.1 hk
    subst hk
    clear hz0 hr
    by_cases hm : m ≤ 0
    · have hm' : decide (m ≤ 0) = true := by simpa using hm
      have hn' : decide (n > 0) = false := by have := htr (by omega) hm; simp; omega
      clear htr
      go_enter Tryd.func7, Tryd.ntmps7
      go_wp2_with fail
      refine (hx _).mono ?_
      rintro e w1 ⟨rfl, hb1⟩
      have hb := hb1
      go_wp2_with fail
      refine (hy _).mono ?_
      rintro e w2 ⟨rfl, hb2⟩
      replace hb := hb.then_ hb2
      go_wp2_with fail
      refine (hz _).mono ?_
      rintro e w3 ⟨rfl, hb3⟩
      replace hb := hb.then_ hb3
      replace hb := hb.then_ (below_new0 _ (.cells #[.int .i64 x1, .int .i64 x2] 23))
      have Kx := Known.made w3 23 #[.int .i64 x1, .int .i64 x2]
      replace hb := hb.then_ (below_new0 _ (.cells #[.int .i64 x1, .int .i64 x2] 23))
      replace Kx := Kx.alloc (.cells #[.int .i64 x1, .int .i64 x2] 23)
      have Ky := Known.made2 w3 23 #[.int .i64 x1, .int .i64 x2] (.cells #[.int .i64 x1, .int .i64 x2] 23)
      replace hb := hb.then_ (below_new0 _ (.cells #[.int .i64 z1, .int .i64 z2] 23))
      replace Kx := Kx.alloc (.cells #[.int .i64 z1, .int .i64 z2] 23)
      replace Ky := Ky.alloc (.cells #[.int .i64 z1, .int .i64 z2] 23)
      have Kz := Known.made3 w3 23 #[.int .i64 z1, .int .i64 z2] (.cells #[.int .i64 x1, .int .i64 x2] 23) (.cells #[.int .i64 x1, .int .i64 x2] 23)
      obtain ⟨cx0, cx1⟩ := Kx.two
      obtain ⟨cy0, cy1⟩ := Ky.two
      obtain ⟨cz0, cz1⟩ := Kz.two
      go_wp2_with fail
      refine (C1 _).mono ?_
      rintro e w4 ⟨rfl, hb4⟩
      replace hb := hb.then_ hb4
      replace Kx := Kx.on hb4
      replace Ky := Ky.on hb4
      replace Kz := Kz.on hb4
      clear cx0 cx1 cy0 cy1 cz0 cz1
      obtain ⟨cx0, cx1⟩ := Kx.two
      obtain ⟨cy0, cy1⟩ := Ky.two
      obtain ⟨cz0, cz1⟩ := Kz.two
      clear cx0 cx1 cy0 cy1 cz0 cz1
      obtain ⟨cx0, cx1⟩ := Kx.two
      obtain ⟨cy0, cy1⟩ := Ky.two
      obtain ⟨cz0, cz1⟩ := Kz.two
      go_wp2_with fail
      refine (C2 _).mono ?_
      rintro e w5 ⟨rfl, hb5⟩
      replace hb := hb.then_ hb5
      replace Kx := Kx.on hb5
      replace Ky := Ky.on hb5
      replace Kz := Kz.on hb5
      clear cx0 cx1 cy0 cy1 cz0 cz1
      obtain ⟨cx0, cx1⟩ := Kx.two
      obtain ⟨cy0, cy1⟩ := Ky.two
      obtain ⟨cz0, cz1⟩ := Kz.two
      clear cx0 cx1 cy0 cy1 cz0 cz1
      obtain ⟨cx0, cx1⟩ := Kx.two
      obtain ⟨cy0, cy1⟩ := Ky.two
      obtain ⟨cz0, cz1⟩ := Kz.two
      go_wp2_with fail
      refine (C3 _).mono ?_
      rintro e w6 ⟨rfl, hb6⟩
      replace hb := hb.then_ hb6
      replace Kx := Kx.on hb6
      replace Ky := Ky.on hb6
      replace Kz := Kz.on hb6
      clear cx0 cx1 cy0 cy1 cz0 cz1
      obtain ⟨cx0, cx1⟩ := Kx.two
      obtain ⟨cy0, cy1⟩ := Ky.two
      obtain ⟨cz0, cz1⟩ := Kz.two
      clear cx0 cx1 cy0 cy1 cz0 cz1
      obtain ⟨cx0, cx1⟩ := Kx.two
      obtain ⟨cy0, cy1⟩ := Ky.two
      obtain ⟨cz0, cz1⟩ := Kz.two
      go_wp2_with fail
      refine (C4 _).mono ?_
      rintro e w7 ⟨rfl, hb7⟩
      replace hb := hb.then_ hb7
      replace Kx := Kx.on hb7
      replace Ky := Ky.on hb7
      replace Kz := Kz.on hb7
      clear cx0 cx1 cy0 cy1 cz0 cz1
      obtain ⟨cx0, cx1⟩ := Kx.two
      obtain ⟨cy0, cy1⟩ := Ky.two
      obtain ⟨cz0, cz1⟩ := Kz.two
      clear cx0 cx1 cy0 cy1 cz0 cz1
      obtain ⟨cx0, cx1⟩ := Kx.two
      obtain ⟨cy0, cy1⟩ := Ky.two
      obtain ⟨cz0, cz1⟩ := Kz.two
      go_wp2_with fail
      refine (A1 _).mono ?_
      rintro e w8 ⟨rfl, hb8⟩
      replace hb := hb.then_ hb8
      replace Kx := Kx.on hb8
      replace Ky := Ky.on hb8
      replace Kz := Kz.on hb8
      replace hb := hb.then_ (below_new0 _ (.cells #[.int .i64 s1, .int .i64 s2] 23))
      replace Kx := Kx.alloc (.cells #[.int .i64 s1, .int .i64 s2] 23)
      replace Ky := Ky.alloc (.cells #[.int .i64 s1, .int .i64 s2] 23)
      replace Kz := Kz.alloc (.cells #[.int .i64 s1, .int .i64 s2] 23)
      have Ks := Known.made w8 23 #[.int .i64 s1, .int .i64 s2]
      clear cx0 cx1 cy0 cy1 cz0 cz1
      obtain ⟨cx0, cx1⟩ := Kx.two
      obtain ⟨cy0, cy1⟩ := Ky.two
      obtain ⟨cz0, cz1⟩ := Kz.two
      obtain ⟨cs0, cs1⟩ := Ks.two
      go_wp2_with fail
      refine (A2 _).mono ?_
      rintro e w9 ⟨rfl, hb9⟩
      replace hb := hb.then_ hb9
      replace Kx := Kx.on hb9
      replace Ky := Ky.on hb9
      replace Kz := Kz.on hb9
      replace Ks := Ks.on hb9
      replace hb := hb.then_ (below_new0 _ (.cells #[.int .i64 t1, .int .i64 t2] 23))
      replace Kx := Kx.alloc (.cells #[.int .i64 t1, .int .i64 t2] 23)
      replace Ky := Ky.alloc (.cells #[.int .i64 t1, .int .i64 t2] 23)
      replace Kz := Kz.alloc (.cells #[.int .i64 t1, .int .i64 t2] 23)
      replace Ks := Ks.alloc (.cells #[.int .i64 t1, .int .i64 t2] 23)
      have Kt := Known.made w9 23 #[.int .i64 t1, .int .i64 t2]
      clear cx0 cx1 cy0 cy1 cz0 cz1 cs0 cs1
      obtain ⟨cx0, cx1⟩ := Kx.two
      obtain ⟨cy0, cy1⟩ := Ky.two
      obtain ⟨cz0, cz1⟩ := Kz.two
      obtain ⟨cs0, cs1⟩ := Ks.two
      obtain ⟨ct0, ct1⟩ := Kt.two
      go_wp2_with fail
      refine (C5 _).mono ?_
      rintro e w10 ⟨rfl, hb10⟩
      replace hb := hb.then_ hb10
      replace Kx := Kx.on hb10
      replace Ky := Ky.on hb10
      replace Kz := Kz.on hb10
      replace Ks := Ks.on hb10
      replace Kt := Kt.on hb10
      clear cx0 cx1 cy0 cy1 cz0 cz1 cs0 cs1 ct0 ct1
      obtain ⟨cx0, cx1⟩ := Kx.two
      obtain ⟨cy0, cy1⟩ := Ky.two
      obtain ⟨cz0, cz1⟩ := Kz.two
      obtain ⟨cs0, cs1⟩ := Ks.two
      obtain ⟨ct0, ct1⟩ := Kt.two
      go_wp2_with fail
      refine (known_any _).mono ?_
      rintro e w11 ⟨rfl, hb11⟩
      go_wp2
      go_ret
      exact ⟨rfl, hb.then_ hb11⟩
    · have hm' : decide (m ≤ 0) = false := by simpa using hm
      clear htr
      go_enter Tryd.func7, Tryd.ntmps7
      go_wp2_with fail
      refine (hx _).mono ?_
      rintro e w1 ⟨rfl, hb1⟩
      have hb := hb1
      go_wp2_with fail
      refine (hy _).mono ?_
      rintro e w2 ⟨rfl, hb2⟩
      replace hb := hb.then_ hb2
      go_wp2_with fail
      refine (hz _).mono ?_
      rintro e w3 ⟨rfl, hb3⟩
      replace hb := hb.then_ hb3
      replace hb := hb.then_ (below_new0 _ (.cells #[.int .i64 x1, .int .i64 x2] 23))
      have Kx := Known.made w3 23 #[.int .i64 x1, .int .i64 x2]
      replace hb := hb.then_ (below_new0 _ (.cells #[.int .i64 x1, .int .i64 x2] 23))
      replace Kx := Kx.alloc (.cells #[.int .i64 x1, .int .i64 x2] 23)
      have Ky := Known.made2 w3 23 #[.int .i64 x1, .int .i64 x2] (.cells #[.int .i64 x1, .int .i64 x2] 23)
      replace hb := hb.then_ (below_new0 _ (.cells #[.int .i64 z1, .int .i64 z2] 23))
      replace Kx := Kx.alloc (.cells #[.int .i64 z1, .int .i64 z2] 23)
      replace Ky := Ky.alloc (.cells #[.int .i64 z1, .int .i64 z2] 23)
      have Kz := Known.made3 w3 23 #[.int .i64 z1, .int .i64 z2] (.cells #[.int .i64 x1, .int .i64 x2] 23) (.cells #[.int .i64 x1, .int .i64 x2] 23)
      obtain ⟨cx0, cx1⟩ := Kx.two
      obtain ⟨cy0, cy1⟩ := Ky.two
      obtain ⟨cz0, cz1⟩ := Kz.two
      go_wp2_with fail
      refine (C1 _).mono ?_
      rintro e w4 ⟨rfl, hb4⟩
      replace hb := hb.then_ hb4
      replace Kx := Kx.on hb4
      replace Ky := Ky.on hb4
      replace Kz := Kz.on hb4
      clear cx0 cx1 cy0 cy1 cz0 cz1
      obtain ⟨cx0, cx1⟩ := Kx.two
      obtain ⟨cy0, cy1⟩ := Ky.two
      obtain ⟨cz0, cz1⟩ := Kz.two
      clear cx0 cx1 cy0 cy1 cz0 cz1
      obtain ⟨cx0, cx1⟩ := Kx.two
      obtain ⟨cy0, cy1⟩ := Ky.two
      obtain ⟨cz0, cz1⟩ := Kz.two
      go_wp2_with fail
      refine (C2 _).mono ?_
      rintro e w5 ⟨rfl, hb5⟩
      replace hb := hb.then_ hb5
      replace Kx := Kx.on hb5
      replace Ky := Ky.on hb5
      replace Kz := Kz.on hb5
      clear cx0 cx1 cy0 cy1 cz0 cz1
      obtain ⟨cx0, cx1⟩ := Kx.two
      obtain ⟨cy0, cy1⟩ := Ky.two
      obtain ⟨cz0, cz1⟩ := Kz.two
      clear cx0 cx1 cy0 cy1 cz0 cz1
      obtain ⟨cx0, cx1⟩ := Kx.two
      obtain ⟨cy0, cy1⟩ := Ky.two
      obtain ⟨cz0, cz1⟩ := Kz.two
      go_wp2_with fail
      refine (C3 _).mono ?_
      rintro e w6 ⟨rfl, hb6⟩
      replace hb := hb.then_ hb6
      replace Kx := Kx.on hb6
      replace Ky := Ky.on hb6
      replace Kz := Kz.on hb6
      clear cx0 cx1 cy0 cy1 cz0 cz1
      obtain ⟨cx0, cx1⟩ := Kx.two
      obtain ⟨cy0, cy1⟩ := Ky.two
      obtain ⟨cz0, cz1⟩ := Kz.two
      clear cx0 cx1 cy0 cy1 cz0 cz1
      obtain ⟨cx0, cx1⟩ := Kx.two
      obtain ⟨cy0, cy1⟩ := Ky.two
      obtain ⟨cz0, cz1⟩ := Kz.two
      go_wp2_with fail
      refine (A1 _).mono ?_
      rintro e w7 ⟨rfl, hb7⟩
      replace hb := hb.then_ hb7
      replace Kx := Kx.on hb7
      replace Ky := Ky.on hb7
      replace Kz := Kz.on hb7
      replace hb := hb.then_ (below_new0 _ (.cells #[.int .i64 s1, .int .i64 s2] 23))
      replace Kx := Kx.alloc (.cells #[.int .i64 s1, .int .i64 s2] 23)
      replace Ky := Ky.alloc (.cells #[.int .i64 s1, .int .i64 s2] 23)
      replace Kz := Kz.alloc (.cells #[.int .i64 s1, .int .i64 s2] 23)
      have Ks := Known.made w7 23 #[.int .i64 s1, .int .i64 s2]
      clear cx0 cx1 cy0 cy1 cz0 cz1
      obtain ⟨cx0, cx1⟩ := Kx.two
      obtain ⟨cy0, cy1⟩ := Ky.two
      obtain ⟨cz0, cz1⟩ := Kz.two
      obtain ⟨cs0, cs1⟩ := Ks.two
      go_wp2_with fail
      refine (A2 _).mono ?_
      rintro e w8 ⟨rfl, hb8⟩
      replace hb := hb.then_ hb8
      replace Kx := Kx.on hb8
      replace Ky := Ky.on hb8
      replace Kz := Kz.on hb8
      replace Ks := Ks.on hb8
      replace hb := hb.then_ (below_new0 _ (.cells #[.int .i64 t1, .int .i64 t2] 23))
      replace Kx := Kx.alloc (.cells #[.int .i64 t1, .int .i64 t2] 23)
      replace Ky := Ky.alloc (.cells #[.int .i64 t1, .int .i64 t2] 23)
      replace Kz := Kz.alloc (.cells #[.int .i64 t1, .int .i64 t2] 23)
      replace Ks := Ks.alloc (.cells #[.int .i64 t1, .int .i64 t2] 23)
      have Kt := Known.made w8 23 #[.int .i64 t1, .int .i64 t2]
      clear cx0 cx1 cy0 cy1 cz0 cz1 cs0 cs1
      obtain ⟨cx0, cx1⟩ := Kx.two
      obtain ⟨cy0, cy1⟩ := Ky.two
      obtain ⟨cz0, cz1⟩ := Kz.two
      obtain ⟨cs0, cs1⟩ := Ks.two
      obtain ⟨ct0, ct1⟩ := Kt.two
      go_wp2_with fail
      refine (C5 _).mono ?_
      rintro e w9 ⟨rfl, hb9⟩
      replace hb := hb.then_ hb9
      replace Kx := Kx.on hb9
      replace Ky := Ky.on hb9
      replace Kz := Kz.on hb9
      replace Ks := Ks.on hb9
      replace Kt := Kt.on hb9
      clear cx0 cx1 cy0 cy1 cz0 cz1 cs0 cs1 ct0 ct1
      obtain ⟨cx0, cx1⟩ := Kx.two
      obtain ⟨cy0, cy1⟩ := Ky.two
      obtain ⟨cz0, cz1⟩ := Kz.two
      obtain ⟨cs0, cs1⟩ := Ks.two
      obtain ⟨ct0, ct1⟩ := Kt.two
      go_wp2_with fail
      refine (known_any _).mono ?_
      rintro e w10 ⟨rfl, hb10⟩
      go_wp2
      go_ret
      exact ⟨rfl, hb.then_ hb10⟩
  · have hk' : (k == 0) = false := by simpa using hk
    have hne : ¬ (x1 = y1 ∧ x2 = y2) := fun h => hk (hz0.2 h)
    clear hz0
    by_cases hx1 : x1 = y1
    · subst hx1
      have hx2 : ¬ x2 = y2 := fun h => hne ⟨rfl, h⟩
      have hx3 : (x2 == y2) = false := by simpa using hx2
      clear hne
      by_cases hk1 : k ≤ 0
      · have hk1' : decide (k ≤ 0) = true := by simpa using hk1
        by_cases hm : m ≤ 0
        · have hm' : decide (m ≤ 0) = true := by simpa using hm
          have hn' : decide (n > 0) = false := by have := htr hk1 hm; simp; omega
          clear htr
          go_enter Tryd.func7, Tryd.ntmps7
          go_wp2_with fail
          refine (hx _).mono ?_
          rintro e w1 ⟨rfl, hb1⟩
          have hb := hb1
          go_wp2_with fail
          refine (hy _).mono ?_
          rintro e w2 ⟨rfl, hb2⟩
          replace hb := hb.then_ hb2
          go_wp2_with fail
          refine (hz _).mono ?_
          rintro e w3 ⟨rfl, hb3⟩
          replace hb := hb.then_ hb3
          replace hb := hb.then_ (below_new0 _ (.cells #[.int .i64 x1, .int .i64 x2] 23))
          have Kx := Known.made w3 23 #[.int .i64 x1, .int .i64 x2]
          replace hb := hb.then_ (below_new0 _ (.cells #[.int .i64 x1, .int .i64 y2] 23))
          replace Kx := Kx.alloc (.cells #[.int .i64 x1, .int .i64 y2] 23)
          have Ky := Known.made2 w3 23 #[.int .i64 x1, .int .i64 y2] (.cells #[.int .i64 x1, .int .i64 x2] 23)
          replace hb := hb.then_ (below_new0 _ (.cells #[.int .i64 z1, .int .i64 z2] 23))
          replace Kx := Kx.alloc (.cells #[.int .i64 z1, .int .i64 z2] 23)
          replace Ky := Ky.alloc (.cells #[.int .i64 z1, .int .i64 z2] 23)
          have Kz := Known.made3 w3 23 #[.int .i64 z1, .int .i64 z2] (.cells #[.int .i64 x1, .int .i64 x2] 23) (.cells #[.int .i64 x1, .int .i64 y2] 23)
          obtain ⟨cx0, cx1⟩ := Kx.two
          obtain ⟨cy0, cy1⟩ := Ky.two
          obtain ⟨cz0, cz1⟩ := Kz.two
          go_wp2_with fail
          refine (C1 _).mono ?_
          rintro e w4 ⟨rfl, hb4⟩
          replace hb := hb.then_ hb4
          replace Kx := Kx.on hb4
          replace Ky := Ky.on hb4
          replace Kz := Kz.on hb4
          clear cx0 cx1 cy0 cy1 cz0 cz1
          obtain ⟨cx0, cx1⟩ := Kx.two
          obtain ⟨cy0, cy1⟩ := Ky.two
          obtain ⟨cz0, cz1⟩ := Kz.two
          clear cx0 cx1 cy0 cy1 cz0 cz1
          obtain ⟨cx0, cx1⟩ := Kx.two
          obtain ⟨cy0, cy1⟩ := Ky.two
          obtain ⟨cz0, cz1⟩ := Kz.two
          go_wp2_with fail
          refine (C2 _).mono ?_
          rintro e w5 ⟨rfl, hb5⟩
          replace hb := hb.then_ hb5
          replace Kx := Kx.on hb5
          replace Ky := Ky.on hb5
          replace Kz := Kz.on hb5
          clear cx0 cx1 cy0 cy1 cz0 cz1
          obtain ⟨cx0, cx1⟩ := Kx.two
          obtain ⟨cy0, cy1⟩ := Ky.two
          obtain ⟨cz0, cz1⟩ := Kz.two
          clear cx0 cx1 cy0 cy1 cz0 cz1
          obtain ⟨cx0, cx1⟩ := Kx.two
          obtain ⟨cy0, cy1⟩ := Ky.two
          obtain ⟨cz0, cz1⟩ := Kz.two
          go_wp2_with fail
          refine (C3 _).mono ?_
          rintro e w6 ⟨rfl, hb6⟩
          replace hb := hb.then_ hb6
          replace Kx := Kx.on hb6
          replace Ky := Ky.on hb6
          replace Kz := Kz.on hb6
          clear cx0 cx1 cy0 cy1 cz0 cz1
          obtain ⟨cx0, cx1⟩ := Kx.two
          obtain ⟨cy0, cy1⟩ := Ky.two
          obtain ⟨cz0, cz1⟩ := Kz.two
          clear cx0 cx1 cy0 cy1 cz0 cz1
          obtain ⟨cx0, cx1⟩ := Kx.two
          obtain ⟨cy0, cy1⟩ := Ky.two
          obtain ⟨cz0, cz1⟩ := Kz.two
          go_wp2_with fail
          refine (C4 _).mono ?_
          rintro e w7 ⟨rfl, hb7⟩
          replace hb := hb.then_ hb7
          replace Kx := Kx.on hb7
          replace Ky := Ky.on hb7
          replace Kz := Kz.on hb7
          clear cx0 cx1 cy0 cy1 cz0 cz1
          obtain ⟨cx0, cx1⟩ := Kx.two
          obtain ⟨cy0, cy1⟩ := Ky.two
          obtain ⟨cz0, cz1⟩ := Kz.two
          clear cx0 cx1 cy0 cy1 cz0 cz1
          obtain ⟨cx0, cx1⟩ := Kx.two
          obtain ⟨cy0, cy1⟩ := Ky.two
          obtain ⟨cz0, cz1⟩ := Kz.two
          go_wp2_with fail
          refine (A1 _).mono ?_
          rintro e w8 ⟨rfl, hb8⟩
          replace hb := hb.then_ hb8
          replace Kx := Kx.on hb8
          replace Ky := Ky.on hb8
          replace Kz := Kz.on hb8
          replace hb := hb.then_ (below_new0 _ (.cells #[.int .i64 s1, .int .i64 s2] 23))
          replace Kx := Kx.alloc (.cells #[.int .i64 s1, .int .i64 s2] 23)
          replace Ky := Ky.alloc (.cells #[.int .i64 s1, .int .i64 s2] 23)
          replace Kz := Kz.alloc (.cells #[.int .i64 s1, .int .i64 s2] 23)
          have Ks := Known.made w8 23 #[.int .i64 s1, .int .i64 s2]
          clear cx0 cx1 cy0 cy1 cz0 cz1
          obtain ⟨cx0, cx1⟩ := Kx.two
          obtain ⟨cy0, cy1⟩ := Ky.two
          obtain ⟨cz0, cz1⟩ := Kz.two
          obtain ⟨cs0, cs1⟩ := Ks.two
          go_wp2_with fail
          refine (A2 _).mono ?_
          rintro e w9 ⟨rfl, hb9⟩
          replace hb := hb.then_ hb9
          replace Kx := Kx.on hb9
          replace Ky := Ky.on hb9
          replace Kz := Kz.on hb9
          replace Ks := Ks.on hb9
          replace hb := hb.then_ (below_new0 _ (.cells #[.int .i64 t1, .int .i64 t2] 23))
          replace Kx := Kx.alloc (.cells #[.int .i64 t1, .int .i64 t2] 23)
          replace Ky := Ky.alloc (.cells #[.int .i64 t1, .int .i64 t2] 23)
          replace Kz := Kz.alloc (.cells #[.int .i64 t1, .int .i64 t2] 23)
          replace Ks := Ks.alloc (.cells #[.int .i64 t1, .int .i64 t2] 23)
          have Kt := Known.made w9 23 #[.int .i64 t1, .int .i64 t2]
          clear cx0 cx1 cy0 cy1 cz0 cz1 cs0 cs1
          obtain ⟨cx0, cx1⟩ := Kx.two
          obtain ⟨cy0, cy1⟩ := Ky.two
          obtain ⟨cz0, cz1⟩ := Kz.two
          obtain ⟨cs0, cs1⟩ := Ks.two
          obtain ⟨ct0, ct1⟩ := Kt.two
          go_wp2_with fail
          refine (C5 _).mono ?_
          rintro e w10 ⟨rfl, hb10⟩
          replace hb := hb.then_ hb10
          replace Kx := Kx.on hb10
          replace Ky := Ky.on hb10
          replace Kz := Kz.on hb10
          replace Ks := Ks.on hb10
          replace Kt := Kt.on hb10
          clear cx0 cx1 cy0 cy1 cz0 cz1 cs0 cs1 ct0 ct1
          obtain ⟨cx0, cx1⟩ := Kx.two
          obtain ⟨cy0, cy1⟩ := Ky.two
          obtain ⟨cz0, cz1⟩ := Kz.two
          obtain ⟨cs0, cs1⟩ := Ks.two
          obtain ⟨ct0, ct1⟩ := Kt.two
          go_wp2_with fail
          refine (known_any _).mono ?_
          rintro e w11 ⟨rfl, hb11⟩
          go_wp2
          go_ret
          exact ⟨rfl, hb.then_ hb11⟩
        · have hm' : decide (m ≤ 0) = false := by simpa using hm
          clear htr
          go_enter Tryd.func7, Tryd.ntmps7
          go_wp2_with fail
          refine (hx _).mono ?_
          rintro e w1 ⟨rfl, hb1⟩
          have hb := hb1
          go_wp2_with fail
          refine (hy _).mono ?_
          rintro e w2 ⟨rfl, hb2⟩
          replace hb := hb.then_ hb2
          go_wp2_with fail
          refine (hz _).mono ?_
          rintro e w3 ⟨rfl, hb3⟩
          replace hb := hb.then_ hb3
          replace hb := hb.then_ (below_new0 _ (.cells #[.int .i64 x1, .int .i64 x2] 23))
          have Kx := Known.made w3 23 #[.int .i64 x1, .int .i64 x2]
          replace hb := hb.then_ (below_new0 _ (.cells #[.int .i64 x1, .int .i64 y2] 23))
          replace Kx := Kx.alloc (.cells #[.int .i64 x1, .int .i64 y2] 23)
          have Ky := Known.made2 w3 23 #[.int .i64 x1, .int .i64 y2] (.cells #[.int .i64 x1, .int .i64 x2] 23)
          replace hb := hb.then_ (below_new0 _ (.cells #[.int .i64 z1, .int .i64 z2] 23))
          replace Kx := Kx.alloc (.cells #[.int .i64 z1, .int .i64 z2] 23)
          replace Ky := Ky.alloc (.cells #[.int .i64 z1, .int .i64 z2] 23)
          have Kz := Known.made3 w3 23 #[.int .i64 z1, .int .i64 z2] (.cells #[.int .i64 x1, .int .i64 x2] 23) (.cells #[.int .i64 x1, .int .i64 y2] 23)
          obtain ⟨cx0, cx1⟩ := Kx.two
          obtain ⟨cy0, cy1⟩ := Ky.two
          obtain ⟨cz0, cz1⟩ := Kz.two
          go_wp2_with fail
          refine (C1 _).mono ?_
          rintro e w4 ⟨rfl, hb4⟩
          replace hb := hb.then_ hb4
          replace Kx := Kx.on hb4
          replace Ky := Ky.on hb4
          replace Kz := Kz.on hb4
          clear cx0 cx1 cy0 cy1 cz0 cz1
          obtain ⟨cx0, cx1⟩ := Kx.two
          obtain ⟨cy0, cy1⟩ := Ky.two
          obtain ⟨cz0, cz1⟩ := Kz.two
          clear cx0 cx1 cy0 cy1 cz0 cz1
          obtain ⟨cx0, cx1⟩ := Kx.two
          obtain ⟨cy0, cy1⟩ := Ky.two
          obtain ⟨cz0, cz1⟩ := Kz.two
          go_wp2_with fail
          refine (C2 _).mono ?_
          rintro e w5 ⟨rfl, hb5⟩
          replace hb := hb.then_ hb5
          replace Kx := Kx.on hb5
          replace Ky := Ky.on hb5
          replace Kz := Kz.on hb5
          clear cx0 cx1 cy0 cy1 cz0 cz1
          obtain ⟨cx0, cx1⟩ := Kx.two
          obtain ⟨cy0, cy1⟩ := Ky.two
          obtain ⟨cz0, cz1⟩ := Kz.two
          clear cx0 cx1 cy0 cy1 cz0 cz1
          obtain ⟨cx0, cx1⟩ := Kx.two
          obtain ⟨cy0, cy1⟩ := Ky.two
          obtain ⟨cz0, cz1⟩ := Kz.two
          go_wp2_with fail
          refine (C3 _).mono ?_
          rintro e w6 ⟨rfl, hb6⟩
          replace hb := hb.then_ hb6
          replace Kx := Kx.on hb6
          replace Ky := Ky.on hb6
          replace Kz := Kz.on hb6
          clear cx0 cx1 cy0 cy1 cz0 cz1
          obtain ⟨cx0, cx1⟩ := Kx.two
          obtain ⟨cy0, cy1⟩ := Ky.two
          obtain ⟨cz0, cz1⟩ := Kz.two
          clear cx0 cx1 cy0 cy1 cz0 cz1
          obtain ⟨cx0, cx1⟩ := Kx.two
          obtain ⟨cy0, cy1⟩ := Ky.two
          obtain ⟨cz0, cz1⟩ := Kz.two
          go_wp2_with fail
          refine (A1 _).mono ?_
          rintro e w7 ⟨rfl, hb7⟩
          replace hb := hb.then_ hb7
          replace Kx := Kx.on hb7
          replace Ky := Ky.on hb7
          replace Kz := Kz.on hb7
          replace hb := hb.then_ (below_new0 _ (.cells #[.int .i64 s1, .int .i64 s2] 23))
          replace Kx := Kx.alloc (.cells #[.int .i64 s1, .int .i64 s2] 23)
          replace Ky := Ky.alloc (.cells #[.int .i64 s1, .int .i64 s2] 23)
          replace Kz := Kz.alloc (.cells #[.int .i64 s1, .int .i64 s2] 23)
          have Ks := Known.made w7 23 #[.int .i64 s1, .int .i64 s2]
          clear cx0 cx1 cy0 cy1 cz0 cz1
          obtain ⟨cx0, cx1⟩ := Kx.two
          obtain ⟨cy0, cy1⟩ := Ky.two
          obtain ⟨cz0, cz1⟩ := Kz.two
          obtain ⟨cs0, cs1⟩ := Ks.two
          go_wp2_with fail
          refine (A2 _).mono ?_
          rintro e w8 ⟨rfl, hb8⟩
          replace hb := hb.then_ hb8
          replace Kx := Kx.on hb8
          replace Ky := Ky.on hb8
          replace Kz := Kz.on hb8
          replace Ks := Ks.on hb8
          replace hb := hb.then_ (below_new0 _ (.cells #[.int .i64 t1, .int .i64 t2] 23))
          replace Kx := Kx.alloc (.cells #[.int .i64 t1, .int .i64 t2] 23)
          replace Ky := Ky.alloc (.cells #[.int .i64 t1, .int .i64 t2] 23)
          replace Kz := Kz.alloc (.cells #[.int .i64 t1, .int .i64 t2] 23)
          replace Ks := Ks.alloc (.cells #[.int .i64 t1, .int .i64 t2] 23)
          have Kt := Known.made w8 23 #[.int .i64 t1, .int .i64 t2]
          clear cx0 cx1 cy0 cy1 cz0 cz1 cs0 cs1
          obtain ⟨cx0, cx1⟩ := Kx.two
          obtain ⟨cy0, cy1⟩ := Ky.two
          obtain ⟨cz0, cz1⟩ := Kz.two
          obtain ⟨cs0, cs1⟩ := Ks.two
          obtain ⟨ct0, ct1⟩ := Kt.two
          go_wp2_with fail
          refine (C5 _).mono ?_
          rintro e w9 ⟨rfl, hb9⟩
          replace hb := hb.then_ hb9
          replace Kx := Kx.on hb9
          replace Ky := Ky.on hb9
          replace Kz := Kz.on hb9
          replace Ks := Ks.on hb9
          replace Kt := Kt.on hb9
          clear cx0 cx1 cy0 cy1 cz0 cz1 cs0 cs1 ct0 ct1
          obtain ⟨cx0, cx1⟩ := Kx.two
          obtain ⟨cy0, cy1⟩ := Ky.two
          obtain ⟨cz0, cz1⟩ := Kz.two
          obtain ⟨cs0, cs1⟩ := Ks.two
          obtain ⟨ct0, ct1⟩ := Kt.two
          go_wp2_with fail
          refine (known_any _).mono ?_
          rintro e w10 ⟨rfl, hb10⟩
          go_wp2
          go_ret
          exact ⟨rfl, hb.then_ hb10⟩
      · have hk1' : decide (k ≤ 0) = false := by simpa using hk1
        clear htr
        go_enter Tryd.func7, Tryd.ntmps7
        go_wp2_with fail
        refine (hx _).mono ?_
        rintro e w1 ⟨rfl, hb1⟩
        have hb := hb1
        go_wp2_with fail
        refine (hy _).mono ?_
        rintro e w2 ⟨rfl, hb2⟩
        replace hb := hb.then_ hb2
        go_wp2_with fail
        refine (hz _).mono ?_
        rintro e w3 ⟨rfl, hb3⟩
        replace hb := hb.then_ hb3
        replace hb := hb.then_ (below_new0 _ (.cells #[.int .i64 x1, .int .i64 x2] 23))
        have Kx := Known.made w3 23 #[.int .i64 x1, .int .i64 x2]
        replace hb := hb.then_ (below_new0 _ (.cells #[.int .i64 x1, .int .i64 y2] 23))
        replace Kx := Kx.alloc (.cells #[.int .i64 x1, .int .i64 y2] 23)
        have Ky := Known.made2 w3 23 #[.int .i64 x1, .int .i64 y2] (.cells #[.int .i64 x1, .int .i64 x2] 23)
        replace hb := hb.then_ (below_new0 _ (.cells #[.int .i64 z1, .int .i64 z2] 23))
        replace Kx := Kx.alloc (.cells #[.int .i64 z1, .int .i64 z2] 23)
        replace Ky := Ky.alloc (.cells #[.int .i64 z1, .int .i64 z2] 23)
        have Kz := Known.made3 w3 23 #[.int .i64 z1, .int .i64 z2] (.cells #[.int .i64 x1, .int .i64 x2] 23) (.cells #[.int .i64 x1, .int .i64 y2] 23)
        obtain ⟨cx0, cx1⟩ := Kx.two
        obtain ⟨cy0, cy1⟩ := Ky.two
        obtain ⟨cz0, cz1⟩ := Kz.two
        go_wp2_with fail
        refine (C1 _).mono ?_
        rintro e w4 ⟨rfl, hb4⟩
        replace hb := hb.then_ hb4
        replace Kx := Kx.on hb4
        replace Ky := Ky.on hb4
        replace Kz := Kz.on hb4
        clear cx0 cx1 cy0 cy1 cz0 cz1
        obtain ⟨cx0, cx1⟩ := Kx.two
        obtain ⟨cy0, cy1⟩ := Ky.two
        obtain ⟨cz0, cz1⟩ := Kz.two
        clear cx0 cx1 cy0 cy1 cz0 cz1
        obtain ⟨cx0, cx1⟩ := Kx.two
        obtain ⟨cy0, cy1⟩ := Ky.two
        obtain ⟨cz0, cz1⟩ := Kz.two
        go_wp2_with fail
        refine (C2 _).mono ?_
        rintro e w5 ⟨rfl, hb5⟩
        replace hb := hb.then_ hb5
        replace Kx := Kx.on hb5
        replace Ky := Ky.on hb5
        replace Kz := Kz.on hb5
        clear cx0 cx1 cy0 cy1 cz0 cz1
        obtain ⟨cx0, cx1⟩ := Kx.two
        obtain ⟨cy0, cy1⟩ := Ky.two
        obtain ⟨cz0, cz1⟩ := Kz.two
        clear cx0 cx1 cy0 cy1 cz0 cz1
        obtain ⟨cx0, cx1⟩ := Kx.two
        obtain ⟨cy0, cy1⟩ := Ky.two
        obtain ⟨cz0, cz1⟩ := Kz.two
        go_wp2_with fail
        refine (A1 _).mono ?_
        rintro e w6 ⟨rfl, hb6⟩
        replace hb := hb.then_ hb6
        replace Kx := Kx.on hb6
        replace Ky := Ky.on hb6
        replace Kz := Kz.on hb6
        replace hb := hb.then_ (below_new0 _ (.cells #[.int .i64 s1, .int .i64 s2] 23))
        replace Kx := Kx.alloc (.cells #[.int .i64 s1, .int .i64 s2] 23)
        replace Ky := Ky.alloc (.cells #[.int .i64 s1, .int .i64 s2] 23)
        replace Kz := Kz.alloc (.cells #[.int .i64 s1, .int .i64 s2] 23)
        have Ks := Known.made w6 23 #[.int .i64 s1, .int .i64 s2]
        clear cx0 cx1 cy0 cy1 cz0 cz1
        obtain ⟨cx0, cx1⟩ := Kx.two
        obtain ⟨cy0, cy1⟩ := Ky.two
        obtain ⟨cz0, cz1⟩ := Kz.two
        obtain ⟨cs0, cs1⟩ := Ks.two
        go_wp2_with fail
        refine (A2 _).mono ?_
        rintro e w7 ⟨rfl, hb7⟩
        replace hb := hb.then_ hb7
        replace Kx := Kx.on hb7
        replace Ky := Ky.on hb7
        replace Kz := Kz.on hb7
        replace Ks := Ks.on hb7
        replace hb := hb.then_ (below_new0 _ (.cells #[.int .i64 t1, .int .i64 t2] 23))
        replace Kx := Kx.alloc (.cells #[.int .i64 t1, .int .i64 t2] 23)
        replace Ky := Ky.alloc (.cells #[.int .i64 t1, .int .i64 t2] 23)
        replace Kz := Kz.alloc (.cells #[.int .i64 t1, .int .i64 t2] 23)
        replace Ks := Ks.alloc (.cells #[.int .i64 t1, .int .i64 t2] 23)
        have Kt := Known.made w7 23 #[.int .i64 t1, .int .i64 t2]
        clear cx0 cx1 cy0 cy1 cz0 cz1 cs0 cs1
        obtain ⟨cx0, cx1⟩ := Kx.two
        obtain ⟨cy0, cy1⟩ := Ky.two
        obtain ⟨cz0, cz1⟩ := Kz.two
        obtain ⟨cs0, cs1⟩ := Ks.two
        obtain ⟨ct0, ct1⟩ := Kt.two
        go_wp2_with fail
        refine (C5 _).mono ?_
        rintro e w8 ⟨rfl, hb8⟩
        replace hb := hb.then_ hb8
        replace Kx := Kx.on hb8
        replace Ky := Ky.on hb8
        replace Kz := Kz.on hb8
        replace Ks := Ks.on hb8
        replace Kt := Kt.on hb8
        clear cx0 cx1 cy0 cy1 cz0 cz1 cs0 cs1 ct0 ct1
        obtain ⟨cx0, cx1⟩ := Kx.two
        obtain ⟨cy0, cy1⟩ := Ky.two
        obtain ⟨cz0, cz1⟩ := Kz.two
        obtain ⟨cs0, cs1⟩ := Ks.two
        obtain ⟨ct0, ct1⟩ := Kt.two
        go_wp2_with fail
        refine (known_any _).mono ?_
        rintro e w9 ⟨rfl, hb9⟩
        go_wp2
        go_ret
        exact ⟨rfl, hb.then_ hb9⟩
    · have hx2 : (x1 == y1) = false := by simpa using hx1
      clear hne
      by_cases hk1 : k ≤ 0
      · have hk1' : decide (k ≤ 0) = true := by simpa using hk1
        by_cases hm : m ≤ 0
        · have hm' : decide (m ≤ 0) = true := by simpa using hm
          have hn' : decide (n > 0) = false := by have := htr hk1 hm; simp; omega
          clear htr
          go_enter Tryd.func7, Tryd.ntmps7
          go_wp2_with fail
          refine (hx _).mono ?_
          rintro e w1 ⟨rfl, hb1⟩
          have hb := hb1
          go_wp2_with fail
          refine (hy _).mono ?_
          rintro e w2 ⟨rfl, hb2⟩
          replace hb := hb.then_ hb2
          go_wp2_with fail
          refine (hz _).mono ?_
          rintro e w3 ⟨rfl, hb3⟩
          replace hb := hb.then_ hb3
          replace hb := hb.then_ (below_new0 _ (.cells #[.int .i64 x1, .int .i64 x2] 23))
          have Kx := Known.made w3 23 #[.int .i64 x1, .int .i64 x2]
          replace hb := hb.then_ (below_new0 _ (.cells #[.int .i64 y1, .int .i64 y2] 23))
          replace Kx := Kx.alloc (.cells #[.int .i64 y1, .int .i64 y2] 23)
          have Ky := Known.made2 w3 23 #[.int .i64 y1, .int .i64 y2] (.cells #[.int .i64 x1, .int .i64 x2] 23)
          replace hb := hb.then_ (below_new0 _ (.cells #[.int .i64 z1, .int .i64 z2] 23))
          replace Kx := Kx.alloc (.cells #[.int .i64 z1, .int .i64 z2] 23)
          replace Ky := Ky.alloc (.cells #[.int .i64 z1, .int .i64 z2] 23)
          have Kz := Known.made3 w3 23 #[.int .i64 z1, .int .i64 z2] (.cells #[.int .i64 x1, .int .i64 x2] 23) (.cells #[.int .i64 y1, .int .i64 y2] 23)
          obtain ⟨cx0, cx1⟩ := Kx.two
          obtain ⟨cy0, cy1⟩ := Ky.two
          obtain ⟨cz0, cz1⟩ := Kz.two
          go_wp2_with fail
          refine (C1 _).mono ?_
          rintro e w4 ⟨rfl, hb4⟩
          replace hb := hb.then_ hb4
          replace Kx := Kx.on hb4
          replace Ky := Ky.on hb4
          replace Kz := Kz.on hb4
          clear cx0 cx1 cy0 cy1 cz0 cz1
          obtain ⟨cx0, cx1⟩ := Kx.two
          obtain ⟨cy0, cy1⟩ := Ky.two
          obtain ⟨cz0, cz1⟩ := Kz.two
          clear cx0 cx1 cy0 cy1 cz0 cz1
          obtain ⟨cx0, cx1⟩ := Kx.two
          obtain ⟨cy0, cy1⟩ := Ky.two
          obtain ⟨cz0, cz1⟩ := Kz.two
          go_wp2_with fail
          refine (C2 _).mono ?_
          rintro e w5 ⟨rfl, hb5⟩
          replace hb := hb.then_ hb5
          replace Kx := Kx.on hb5
          replace Ky := Ky.on hb5
          replace Kz := Kz.on hb5
          clear cx0 cx1 cy0 cy1 cz0 cz1
          obtain ⟨cx0, cx1⟩ := Kx.two
          obtain ⟨cy0, cy1⟩ := Ky.two
          obtain ⟨cz0, cz1⟩ := Kz.two
          clear cx0 cx1 cy0 cy1 cz0 cz1
          obtain ⟨cx0, cx1⟩ := Kx.two
          obtain ⟨cy0, cy1⟩ := Ky.two
          obtain ⟨cz0, cz1⟩ := Kz.two
          go_wp2_with fail
          refine (C3 _).mono ?_
          rintro e w6 ⟨rfl, hb6⟩
          replace hb := hb.then_ hb6
          replace Kx := Kx.on hb6
          replace Ky := Ky.on hb6
          replace Kz := Kz.on hb6
          clear cx0 cx1 cy0 cy1 cz0 cz1
          obtain ⟨cx0, cx1⟩ := Kx.two
          obtain ⟨cy0, cy1⟩ := Ky.two
          obtain ⟨cz0, cz1⟩ := Kz.two
          clear cx0 cx1 cy0 cy1 cz0 cz1
          obtain ⟨cx0, cx1⟩ := Kx.two
          obtain ⟨cy0, cy1⟩ := Ky.two
          obtain ⟨cz0, cz1⟩ := Kz.two
          go_wp2_with fail
          refine (C4 _).mono ?_
          rintro e w7 ⟨rfl, hb7⟩
          replace hb := hb.then_ hb7
          replace Kx := Kx.on hb7
          replace Ky := Ky.on hb7
          replace Kz := Kz.on hb7
          clear cx0 cx1 cy0 cy1 cz0 cz1
          obtain ⟨cx0, cx1⟩ := Kx.two
          obtain ⟨cy0, cy1⟩ := Ky.two
          obtain ⟨cz0, cz1⟩ := Kz.two
          clear cx0 cx1 cy0 cy1 cz0 cz1
          obtain ⟨cx0, cx1⟩ := Kx.two
          obtain ⟨cy0, cy1⟩ := Ky.two
          obtain ⟨cz0, cz1⟩ := Kz.two
          go_wp2_with fail
          refine (A1 _).mono ?_
          rintro e w8 ⟨rfl, hb8⟩
          replace hb := hb.then_ hb8
          replace Kx := Kx.on hb8
          replace Ky := Ky.on hb8
          replace Kz := Kz.on hb8
          replace hb := hb.then_ (below_new0 _ (.cells #[.int .i64 s1, .int .i64 s2] 23))
          replace Kx := Kx.alloc (.cells #[.int .i64 s1, .int .i64 s2] 23)
          replace Ky := Ky.alloc (.cells #[.int .i64 s1, .int .i64 s2] 23)
          replace Kz := Kz.alloc (.cells #[.int .i64 s1, .int .i64 s2] 23)
          have Ks := Known.made w8 23 #[.int .i64 s1, .int .i64 s2]
          clear cx0 cx1 cy0 cy1 cz0 cz1
          obtain ⟨cx0, cx1⟩ := Kx.two
          obtain ⟨cy0, cy1⟩ := Ky.two
          obtain ⟨cz0, cz1⟩ := Kz.two
          obtain ⟨cs0, cs1⟩ := Ks.two
          go_wp2_with fail
          refine (A2 _).mono ?_
          rintro e w9 ⟨rfl, hb9⟩
          replace hb := hb.then_ hb9
          replace Kx := Kx.on hb9
          replace Ky := Ky.on hb9
          replace Kz := Kz.on hb9
          replace Ks := Ks.on hb9
          replace hb := hb.then_ (below_new0 _ (.cells #[.int .i64 t1, .int .i64 t2] 23))
          replace Kx := Kx.alloc (.cells #[.int .i64 t1, .int .i64 t2] 23)
          replace Ky := Ky.alloc (.cells #[.int .i64 t1, .int .i64 t2] 23)
          replace Kz := Kz.alloc (.cells #[.int .i64 t1, .int .i64 t2] 23)
          replace Ks := Ks.alloc (.cells #[.int .i64 t1, .int .i64 t2] 23)
          have Kt := Known.made w9 23 #[.int .i64 t1, .int .i64 t2]
          clear cx0 cx1 cy0 cy1 cz0 cz1 cs0 cs1
          obtain ⟨cx0, cx1⟩ := Kx.two
          obtain ⟨cy0, cy1⟩ := Ky.two
          obtain ⟨cz0, cz1⟩ := Kz.two
          obtain ⟨cs0, cs1⟩ := Ks.two
          obtain ⟨ct0, ct1⟩ := Kt.two
          go_wp2_with fail
          refine (C5 _).mono ?_
          rintro e w10 ⟨rfl, hb10⟩
          replace hb := hb.then_ hb10
          replace Kx := Kx.on hb10
          replace Ky := Ky.on hb10
          replace Kz := Kz.on hb10
          replace Ks := Ks.on hb10
          replace Kt := Kt.on hb10
          clear cx0 cx1 cy0 cy1 cz0 cz1 cs0 cs1 ct0 ct1
          obtain ⟨cx0, cx1⟩ := Kx.two
          obtain ⟨cy0, cy1⟩ := Ky.two
          obtain ⟨cz0, cz1⟩ := Kz.two
          obtain ⟨cs0, cs1⟩ := Ks.two
          obtain ⟨ct0, ct1⟩ := Kt.two
          go_wp2_with fail
          refine (known_any _).mono ?_
          rintro e w11 ⟨rfl, hb11⟩
          go_wp2
          go_ret
          exact ⟨rfl, hb.then_ hb11⟩
        · have hm' : decide (m ≤ 0) = false := by simpa using hm
          clear htr
          go_enter Tryd.func7, Tryd.ntmps7
          go_wp2_with fail
          refine (hx _).mono ?_
          rintro e w1 ⟨rfl, hb1⟩
          have hb := hb1
          go_wp2_with fail
          refine (hy _).mono ?_
          rintro e w2 ⟨rfl, hb2⟩
          replace hb := hb.then_ hb2
          go_wp2_with fail
          refine (hz _).mono ?_
          rintro e w3 ⟨rfl, hb3⟩
          replace hb := hb.then_ hb3
          replace hb := hb.then_ (below_new0 _ (.cells #[.int .i64 x1, .int .i64 x2] 23))
          have Kx := Known.made w3 23 #[.int .i64 x1, .int .i64 x2]
          replace hb := hb.then_ (below_new0 _ (.cells #[.int .i64 y1, .int .i64 y2] 23))
          replace Kx := Kx.alloc (.cells #[.int .i64 y1, .int .i64 y2] 23)
          have Ky := Known.made2 w3 23 #[.int .i64 y1, .int .i64 y2] (.cells #[.int .i64 x1, .int .i64 x2] 23)
          replace hb := hb.then_ (below_new0 _ (.cells #[.int .i64 z1, .int .i64 z2] 23))
          replace Kx := Kx.alloc (.cells #[.int .i64 z1, .int .i64 z2] 23)
          replace Ky := Ky.alloc (.cells #[.int .i64 z1, .int .i64 z2] 23)
          have Kz := Known.made3 w3 23 #[.int .i64 z1, .int .i64 z2] (.cells #[.int .i64 x1, .int .i64 x2] 23) (.cells #[.int .i64 y1, .int .i64 y2] 23)
          obtain ⟨cx0, cx1⟩ := Kx.two
          obtain ⟨cy0, cy1⟩ := Ky.two
          obtain ⟨cz0, cz1⟩ := Kz.two
          go_wp2_with fail
          refine (C1 _).mono ?_
          rintro e w4 ⟨rfl, hb4⟩
          replace hb := hb.then_ hb4
          replace Kx := Kx.on hb4
          replace Ky := Ky.on hb4
          replace Kz := Kz.on hb4
          clear cx0 cx1 cy0 cy1 cz0 cz1
          obtain ⟨cx0, cx1⟩ := Kx.two
          obtain ⟨cy0, cy1⟩ := Ky.two
          obtain ⟨cz0, cz1⟩ := Kz.two
          clear cx0 cx1 cy0 cy1 cz0 cz1
          obtain ⟨cx0, cx1⟩ := Kx.two
          obtain ⟨cy0, cy1⟩ := Ky.two
          obtain ⟨cz0, cz1⟩ := Kz.two
          go_wp2_with fail
          refine (C2 _).mono ?_
          rintro e w5 ⟨rfl, hb5⟩
          replace hb := hb.then_ hb5
          replace Kx := Kx.on hb5
          replace Ky := Ky.on hb5
          replace Kz := Kz.on hb5
          clear cx0 cx1 cy0 cy1 cz0 cz1
          obtain ⟨cx0, cx1⟩ := Kx.two
          obtain ⟨cy0, cy1⟩ := Ky.two
          obtain ⟨cz0, cz1⟩ := Kz.two
          clear cx0 cx1 cy0 cy1 cz0 cz1
          obtain ⟨cx0, cx1⟩ := Kx.two
          obtain ⟨cy0, cy1⟩ := Ky.two
          obtain ⟨cz0, cz1⟩ := Kz.two
          go_wp2_with fail
          refine (C3 _).mono ?_
          rintro e w6 ⟨rfl, hb6⟩
          replace hb := hb.then_ hb6
          replace Kx := Kx.on hb6
          replace Ky := Ky.on hb6
          replace Kz := Kz.on hb6
          clear cx0 cx1 cy0 cy1 cz0 cz1
          obtain ⟨cx0, cx1⟩ := Kx.two
          obtain ⟨cy0, cy1⟩ := Ky.two
          obtain ⟨cz0, cz1⟩ := Kz.two
          clear cx0 cx1 cy0 cy1 cz0 cz1
          obtain ⟨cx0, cx1⟩ := Kx.two
          obtain ⟨cy0, cy1⟩ := Ky.two
          obtain ⟨cz0, cz1⟩ := Kz.two
          go_wp2_with fail
          refine (A1 _).mono ?_
          rintro e w7 ⟨rfl, hb7⟩
          replace hb := hb.then_ hb7
          replace Kx := Kx.on hb7
          replace Ky := Ky.on hb7
          replace Kz := Kz.on hb7
          replace hb := hb.then_ (below_new0 _ (.cells #[.int .i64 s1, .int .i64 s2] 23))
          replace Kx := Kx.alloc (.cells #[.int .i64 s1, .int .i64 s2] 23)
          replace Ky := Ky.alloc (.cells #[.int .i64 s1, .int .i64 s2] 23)
          replace Kz := Kz.alloc (.cells #[.int .i64 s1, .int .i64 s2] 23)
          have Ks := Known.made w7 23 #[.int .i64 s1, .int .i64 s2]
          clear cx0 cx1 cy0 cy1 cz0 cz1
          obtain ⟨cx0, cx1⟩ := Kx.two
          obtain ⟨cy0, cy1⟩ := Ky.two
          obtain ⟨cz0, cz1⟩ := Kz.two
          obtain ⟨cs0, cs1⟩ := Ks.two
          go_wp2_with fail
          refine (A2 _).mono ?_
          rintro e w8 ⟨rfl, hb8⟩
          replace hb := hb.then_ hb8
          replace Kx := Kx.on hb8
          replace Ky := Ky.on hb8
          replace Kz := Kz.on hb8
          replace Ks := Ks.on hb8
          replace hb := hb.then_ (below_new0 _ (.cells #[.int .i64 t1, .int .i64 t2] 23))
          replace Kx := Kx.alloc (.cells #[.int .i64 t1, .int .i64 t2] 23)
          replace Ky := Ky.alloc (.cells #[.int .i64 t1, .int .i64 t2] 23)
          replace Kz := Kz.alloc (.cells #[.int .i64 t1, .int .i64 t2] 23)
          replace Ks := Ks.alloc (.cells #[.int .i64 t1, .int .i64 t2] 23)
          have Kt := Known.made w8 23 #[.int .i64 t1, .int .i64 t2]
          clear cx0 cx1 cy0 cy1 cz0 cz1 cs0 cs1
          obtain ⟨cx0, cx1⟩ := Kx.two
          obtain ⟨cy0, cy1⟩ := Ky.two
          obtain ⟨cz0, cz1⟩ := Kz.two
          obtain ⟨cs0, cs1⟩ := Ks.two
          obtain ⟨ct0, ct1⟩ := Kt.two
          go_wp2_with fail
          refine (C5 _).mono ?_
          rintro e w9 ⟨rfl, hb9⟩
          replace hb := hb.then_ hb9
          replace Kx := Kx.on hb9
          replace Ky := Ky.on hb9
          replace Kz := Kz.on hb9
          replace Ks := Ks.on hb9
          replace Kt := Kt.on hb9
          clear cx0 cx1 cy0 cy1 cz0 cz1 cs0 cs1 ct0 ct1
          obtain ⟨cx0, cx1⟩ := Kx.two
          obtain ⟨cy0, cy1⟩ := Ky.two
          obtain ⟨cz0, cz1⟩ := Kz.two
          obtain ⟨cs0, cs1⟩ := Ks.two
          obtain ⟨ct0, ct1⟩ := Kt.two
          go_wp2_with fail
          refine (known_any _).mono ?_
          rintro e w10 ⟨rfl, hb10⟩
          go_wp2
          go_ret
          exact ⟨rfl, hb.then_ hb10⟩
      · have hk1' : decide (k ≤ 0) = false := by simpa using hk1
        clear htr
        go_enter Tryd.func7, Tryd.ntmps7
        go_wp2_with fail
        refine (hx _).mono ?_
        rintro e w1 ⟨rfl, hb1⟩
        have hb := hb1
        go_wp2_with fail
        refine (hy _).mono ?_
        rintro e w2 ⟨rfl, hb2⟩
        replace hb := hb.then_ hb2
        go_wp2_with fail
        refine (hz _).mono ?_
        rintro e w3 ⟨rfl, hb3⟩
        replace hb := hb.then_ hb3
        replace hb := hb.then_ (below_new0 _ (.cells #[.int .i64 x1, .int .i64 x2] 23))
        have Kx := Known.made w3 23 #[.int .i64 x1, .int .i64 x2]
        replace hb := hb.then_ (below_new0 _ (.cells #[.int .i64 y1, .int .i64 y2] 23))
        replace Kx := Kx.alloc (.cells #[.int .i64 y1, .int .i64 y2] 23)
        have Ky := Known.made2 w3 23 #[.int .i64 y1, .int .i64 y2] (.cells #[.int .i64 x1, .int .i64 x2] 23)
        replace hb := hb.then_ (below_new0 _ (.cells #[.int .i64 z1, .int .i64 z2] 23))
        replace Kx := Kx.alloc (.cells #[.int .i64 z1, .int .i64 z2] 23)
        replace Ky := Ky.alloc (.cells #[.int .i64 z1, .int .i64 z2] 23)
        have Kz := Known.made3 w3 23 #[.int .i64 z1, .int .i64 z2] (.cells #[.int .i64 x1, .int .i64 x2] 23) (.cells #[.int .i64 y1, .int .i64 y2] 23)
        obtain ⟨cx0, cx1⟩ := Kx.two
        obtain ⟨cy0, cy1⟩ := Ky.two
        obtain ⟨cz0, cz1⟩ := Kz.two
        go_wp2_with fail
        refine (C1 _).mono ?_
        rintro e w4 ⟨rfl, hb4⟩
        replace hb := hb.then_ hb4
        replace Kx := Kx.on hb4
        replace Ky := Ky.on hb4
        replace Kz := Kz.on hb4
        clear cx0 cx1 cy0 cy1 cz0 cz1
        obtain ⟨cx0, cx1⟩ := Kx.two
        obtain ⟨cy0, cy1⟩ := Ky.two
        obtain ⟨cz0, cz1⟩ := Kz.two
        clear cx0 cx1 cy0 cy1 cz0 cz1
        obtain ⟨cx0, cx1⟩ := Kx.two
        obtain ⟨cy0, cy1⟩ := Ky.two
        obtain ⟨cz0, cz1⟩ := Kz.two
        go_wp2_with fail
        refine (C2 _).mono ?_
        rintro e w5 ⟨rfl, hb5⟩
        replace hb := hb.then_ hb5
        replace Kx := Kx.on hb5
        replace Ky := Ky.on hb5
        replace Kz := Kz.on hb5
        clear cx0 cx1 cy0 cy1 cz0 cz1
        obtain ⟨cx0, cx1⟩ := Kx.two
        obtain ⟨cy0, cy1⟩ := Ky.two
        obtain ⟨cz0, cz1⟩ := Kz.two
        clear cx0 cx1 cy0 cy1 cz0 cz1
        obtain ⟨cx0, cx1⟩ := Kx.two
        obtain ⟨cy0, cy1⟩ := Ky.two
        obtain ⟨cz0, cz1⟩ := Kz.two
        go_wp2_with fail
        refine (A1 _).mono ?_
        rintro e w6 ⟨rfl, hb6⟩
        replace hb := hb.then_ hb6
        replace Kx := Kx.on hb6
        replace Ky := Ky.on hb6
        replace Kz := Kz.on hb6
        replace hb := hb.then_ (below_new0 _ (.cells #[.int .i64 s1, .int .i64 s2] 23))
        replace Kx := Kx.alloc (.cells #[.int .i64 s1, .int .i64 s2] 23)
        replace Ky := Ky.alloc (.cells #[.int .i64 s1, .int .i64 s2] 23)
        replace Kz := Kz.alloc (.cells #[.int .i64 s1, .int .i64 s2] 23)
        have Ks := Known.made w6 23 #[.int .i64 s1, .int .i64 s2]
        clear cx0 cx1 cy0 cy1 cz0 cz1
        obtain ⟨cx0, cx1⟩ := Kx.two
        obtain ⟨cy0, cy1⟩ := Ky.two
        obtain ⟨cz0, cz1⟩ := Kz.two
        obtain ⟨cs0, cs1⟩ := Ks.two
        go_wp2_with fail
        refine (A2 _).mono ?_
        rintro e w7 ⟨rfl, hb7⟩
        replace hb := hb.then_ hb7
        replace Kx := Kx.on hb7
        replace Ky := Ky.on hb7
        replace Kz := Kz.on hb7
        replace Ks := Ks.on hb7
        replace hb := hb.then_ (below_new0 _ (.cells #[.int .i64 t1, .int .i64 t2] 23))
        replace Kx := Kx.alloc (.cells #[.int .i64 t1, .int .i64 t2] 23)
        replace Ky := Ky.alloc (.cells #[.int .i64 t1, .int .i64 t2] 23)
        replace Kz := Kz.alloc (.cells #[.int .i64 t1, .int .i64 t2] 23)
        replace Ks := Ks.alloc (.cells #[.int .i64 t1, .int .i64 t2] 23)
        have Kt := Known.made w7 23 #[.int .i64 t1, .int .i64 t2]
        clear cx0 cx1 cy0 cy1 cz0 cz1 cs0 cs1
        obtain ⟨cx0, cx1⟩ := Kx.two
        obtain ⟨cy0, cy1⟩ := Ky.two
        obtain ⟨cz0, cz1⟩ := Kz.two
        obtain ⟨cs0, cs1⟩ := Ks.two
        obtain ⟨ct0, ct1⟩ := Kt.two
        go_wp2_with fail
        refine (C5 _).mono ?_
        rintro e w8 ⟨rfl, hb8⟩
        replace hb := hb.then_ hb8
        replace Kx := Kx.on hb8
        replace Ky := Ky.on hb8
        replace Kz := Kz.on hb8
        replace Ks := Ks.on hb8
        replace Kt := Kt.on hb8
        clear cx0 cx1 cy0 cy1 cz0 cz1 cs0 cs1 ct0 ct1
        obtain ⟨cx0, cx1⟩ := Kx.two
        obtain ⟨cy0, cy1⟩ := Ky.two
        obtain ⟨cz0, cz1⟩ := Kz.two
        obtain ⟨cs0, cs1⟩ := Ks.two
        obtain ⟨ct0, ct1⟩ := Kt.two
        go_wp2_with fail
        refine (known_any _).mono ?_
        rintro e w9 ⟨rfl, hb9⟩
        go_wp2
        go_ret
        exact ⟨rfl, hb.then_ hb9⟩
end Go.Proofs.YtbddbhamkclndaaDoor
