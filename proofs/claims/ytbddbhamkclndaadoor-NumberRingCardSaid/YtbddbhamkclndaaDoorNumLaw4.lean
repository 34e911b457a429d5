/-
  The law NumberRing, walked. Conditions: those typed in each theorem.
-/
import Derived.Test.YtbddbhamkclndaaDoorNumOf
namespace Go.Proofs.YtbddbhamkclndaaDoor
open Go.RowKit

set_option maxHeartbeats 4000000 in
theorem law_ring (a b c d e f : Int) (w : World) :
    Calls Tryd.prog 6 #[.int .i64 a, .int .i64 b, .int .i64 c, .int .i64 d, .int .i64 e, .int .i64 f] w fun e w' => e = .returned (.bool true) ∧ Below w.heap.size w w' := by
  obtain ⟨x1, x2, sx, hx⟩ := of_any a d
  obtain ⟨y1, y2, sy, hy⟩ := of_any b e
  obtain ⟨z1, z2, sz, hz⟩ := of_any c f
  obtain ⟨s1, s2, es, vs, _⟩ := add_fine sx sy
  obtain ⟨m1, m2, em, _, _⟩ := mul_fine sx sy
  obtain ⟨v1, v2, ev, vv, _⟩ := mul_fine sx sz
  obtain ⟨t1, t2, et, vt, _⟩ := mul_fine sy sz
  obtain ⟨⟨u1, u2, u3⟩, eu⟩ : ∃ r, mulV s1 s2 z1 z2 = r := ⟨_, rfl⟩
  obtain ⟨⟨k1, k2, k3⟩, ek⟩ : ∃ r, addV v1 v2 t1 t2 = r := ⟨_, rfl⟩
  have ix := val_i64 sx.1
  have iy := val_i64 sy.1
  have iz := val_i64 sz.1
  have is := val_i64 vs
  have iv := val_i64 vv
  have it := val_i64 vt
  have A1 : Ret3 28 x1 x2 y1 y2 s1 s2 0 := (addP_any _ _ _ _ ix.1 ix.2 iy.1 iy.2).to3 es
  have A2 : Ret3 28 y1 y2 x1 x2 s1 s2 0 := (addP_any _ _ _ _ iy.1 iy.2 ix.1 ix.2).to3 (by rw [add_comm', es])
  have A3 : Ret3 29 x1 x2 y1 y2 m1 m2 0 := (mulP_any _ _ _ _ ix.1 ix.2 iy.1 iy.2).to3 em
  have A4 : Ret3 29 y1 y2 x1 x2 m1 m2 0 := (mulP_any _ _ _ _ iy.1 iy.2 ix.1 ix.2).to3 (by rw [mul_comm', em])
  have A5 : Ret3 29 s1 s2 z1 z2 u1 u2 u3 := (mulP_any _ _ _ _ is.1 is.2 iz.1 iz.2).to3 eu
  have A6 : Ret3 29 x1 x2 z1 z2 v1 v2 0 := (mulP_any _ _ _ _ ix.1 ix.2 iz.1 iz.2).to3 ev
  have A7 : Ret3 29 y1 y2 z1 z2 t1 t2 0 := (mulP_any _ _ _ _ iy.1 iy.2 iz.1 iz.2).to3 et
  have A8 : Ret3 28 v1 v2 t1 t2 k1 k2 k3 := (addP_any _ _ _ _ iv.1 iv.2 it.1 it.2).to3 ek
  have A9 : u3 = 0 → k3 = 0 → Ret3 30 k1 k2 u1 u2 0 1 0 := by
    rintro rfl rfl
    have vu := (op_ok (r := (u1, u2, 0)) eu.symm vs sz.1 (Int.mul_ne_zero (val_pos vs).1 (val_pos sz.1).1) rfl).1
    have vk := (op_ok (r := (k1, k2, 0)) ek.symm vv vt (Int.mul_ne_zero (val_pos vv).1 (val_pos vt).1) rfl).1
    have iu := val_i64 vu
    have ik := val_i64 vk
    exact (subP_any _ _ _ _ ik.1 ik.2 iu.1 iu.2).to3 (distr sx.1 sy.1 sz.1 (s1, s2, 0) es.symm rfl (u1, u2, 0) eu.symm rfl (v1, v2, 0) ev.symm rfl (t1, t2, 0) et.symm rfl (k1, k2, 0) ek.symm rfl)
  clear es em ev et eu ek vs vv vt ix iy iz is iv it sx sy sz
  rename_i r1 r2 r3 r4 r5
  clear r1 r2 r3 r4 r5
  go_enter Tryd.func6, Tryd.ntmps6
  go_wp2_with fail
  refine (hx _).mono ?_
  rintro e w1 ⟨rfl, hb1⟩
  have hb := hb1
  go_wp2_with fail
  refine (hy _).mono ?_
  rintro e w2 ⟨rfl, hb2⟩
  replace hb := hb.then_ hb2
  go_wp2_with fail
  refine (hz _).mono ?_
  rintro e w3 ⟨rfl, hb3⟩
  replace hb := hb.then_ hb3
  replace hb := hb.then_ (below_new0 _ (.cells #[.int .i64 x1, .int .i64 x2] 23))
  have Kx := Known.made w3 23 #[.int .i64 x1, .int .i64 x2]
  replace hb := hb.then_ (below_new0 _ (.cells #[.int .i64 y1, .int .i64 y2] 23))
  replace Kx := Kx.alloc (.cells #[.int .i64 y1, .int .i64 y2] 23)
  have Ky := Known.made2 w3 23 #[.int .i64 y1, .int .i64 y2] (.cells #[.int .i64 x1, .int .i64 x2] 23)
  replace hb := hb.then_ (below_new0 _ (.cells #[.int .i64 z1, .int .i64 z2] 23))
  replace Kx := Kx.alloc (.cells #[.int .i64 z1, .int .i64 z2] 23)
  replace Ky := Ky.alloc (.cells #[.int .i64 z1, .int .i64 z2] 23)
  have Kz := Known.made3 w3 23 #[.int .i64 z1, .int .i64 z2] (.cells #[.int .i64 x1, .int .i64 x2] 23) (.cells #[.int .i64 y1, .int .i64 y2] 23)
  obtain ⟨cx0, cx1⟩ := Kx.two
  obtain ⟨cy0, cy1⟩ := Ky.two
  obtain ⟨cz0, cz1⟩ := Kz.two
  go_wp2_with fail
  refine (A1 _).mono ?_
  rintro e w4 ⟨rfl, hb4⟩
  replace hb := hb.then_ hb4
  replace Kx := Kx.on hb4
  replace Ky := Ky.on hb4
  replace Kz := Kz.on hb4
  replace hb := hb.then_ (below_new0 _ (.cells #[.int .i64 s1, .int .i64 s2] 23))
  replace Kx := Kx.alloc (.cells #[.int .i64 s1, .int .i64 s2] 23)
  replace Ky := Ky.alloc (.cells #[.int .i64 s1, .int .i64 s2] 23)
  replace Kz := Kz.alloc (.cells #[.int .i64 s1, .int .i64 s2] 23)
  have Ks := Known.made w4 23 #[.int .i64 s1, .int .i64 s2]
  clear cx0 cx1 cy0 cy1 cz0 cz1
  obtain ⟨cx0, cx1⟩ := Kx.two
  obtain ⟨cy0, cy1⟩ := Ky.two
  obtain ⟨cz0, cz1⟩ := Kz.two
  obtain ⟨cs0, cs1⟩ := Ks.two
  go_wp2_with fail
  refine (A2 _).mono ?_
  rintro e w5 ⟨rfl, hb5⟩
  replace hb := hb.then_ hb5
  replace Kx := Kx.on hb5
  replace Ky := Ky.on hb5
  replace Kz := Kz.on hb5
  replace Ks := Ks.on hb5
  replace hb := hb.then_ (below_new0 _ (.cells #[.int .i64 s1, .int .i64 s2] 23))
  replace Kx := Kx.alloc (.cells #[.int .i64 s1, .int .i64 s2] 23)
  replace Ky := Ky.alloc (.cells #[.int .i64 s1, .int .i64 s2] 23)
  replace Kz := Kz.alloc (.cells #[.int .i64 s1, .int .i64 s2] 23)
  replace Ks := Ks.alloc (.cells #[.int .i64 s1, .int .i64 s2] 23)
  have Kt := Known.made w5 23 #[.int .i64 s1, .int .i64 s2]
  clear cx0 cx1 cy0 cy1 cz0 cz1 cs0 cs1
  obtain ⟨cx0, cx1⟩ := Kx.two
  obtain ⟨cy0, cy1⟩ := Ky.two
  obtain ⟨cz0, cz1⟩ := Kz.two
  obtain ⟨cs0, cs1⟩ := Ks.two
  obtain ⟨ct0, ct1⟩ := Kt.two
  go_wp2_with fail
  refine (A3 _).mono ?_
  rintro e w6 ⟨rfl, hb6⟩
  replace hb := hb.then_ hb6
  replace Kx := Kx.on hb6
  replace Ky := Ky.on hb6
  replace Kz := Kz.on hb6
  replace Ks := Ks.on hb6
  replace Kt := Kt.on hb6
  replace hb := hb.then_ (below_new0 _ (.cells #[.int .i64 m1, .int .i64 m2] 23))
  replace Kx := Kx.alloc (.cells #[.int .i64 m1, .int .i64 m2] 23)
  replace Ky := Ky.alloc (.cells #[.int .i64 m1, .int .i64 m2] 23)
  replace Kz := Kz.alloc (.cells #[.int .i64 m1, .int .i64 m2] 23)
  replace Ks := Ks.alloc (.cells #[.int .i64 m1, .int .i64 m2] 23)
  replace Kt := Kt.alloc (.cells #[.int .i64 m1, .int .i64 m2] 23)
  have Km := Known.made w6 23 #[.int .i64 m1, .int .i64 m2]
  clear cx0 cx1 cy0 cy1 cz0 cz1 cs0 cs1 ct0 ct1
  obtain ⟨cx0, cx1⟩ := Kx.two
  obtain ⟨cy0, cy1⟩ := Ky.two
  obtain ⟨cz0, cz1⟩ := Kz.two
  obtain ⟨cs0, cs1⟩ := Ks.two
  obtain ⟨ct0, ct1⟩ := Kt.two
  obtain ⟨cm0, cm1⟩ := Km.two
  clear Kt ct0 ct1
  go_wp2_with fail
  refine (A4 _).mono ?_
  rintro e w7 ⟨rfl, hb7⟩
  replace hb := hb.then_ hb7
  replace Kx := Kx.on hb7
  replace Ky := Ky.on hb7
  replace Kz := Kz.on hb7
  replace Ks := Ks.on hb7
  replace Km := Km.on hb7
  replace hb := hb.then_ (below_new0 _ (.cells #[.int .i64 m1, .int .i64 m2] 23))
  replace Kx := Kx.alloc (.cells #[.int .i64 m1, .int .i64 m2] 23)
  replace Ky := Ky.alloc (.cells #[.int .i64 m1, .int .i64 m2] 23)
  replace Kz := Kz.alloc (.cells #[.int .i64 m1, .int .i64 m2] 23)
  replace Ks := Ks.alloc (.cells #[.int .i64 m1, .int .i64 m2] 23)
  replace Km := Km.alloc (.cells #[.int .i64 m1, .int .i64 m2] 23)
  have Kn := Known.made w7 23 #[.int .i64 m1, .int .i64 m2]
  clear cx0 cx1 cy0 cy1 cz0 cz1 cs0 cs1 cm0 cm1
  obtain ⟨cx0, cx1⟩ := Kx.two
  obtain ⟨cy0, cy1⟩ := Ky.two
  obtain ⟨cz0, cz1⟩ := Kz.two
  obtain ⟨cs0, cs1⟩ := Ks.two
  obtain ⟨cm0, cm1⟩ := Km.two
  obtain ⟨cn0, cn1⟩ := Kn.two
  go_wp2_with fail
  refine (A5 _).mono ?_
  rintro e w8 ⟨rfl, hb8⟩
  replace hb := hb.then_ hb8
  replace Kx := Kx.on hb8
  replace Ky := Ky.on hb8
  replace Kz := Kz.on hb8
  replace Ks := Ks.on hb8
  replace Km := Km.on hb8
  replace Kn := Kn.on hb8
  replace hb := hb.then_ (below_new0 _ (.cells #[.int .i64 u1, .int .i64 u2] 23))
  replace Kx := Kx.alloc (.cells #[.int .i64 u1, .int .i64 u2] 23)
  replace Ky := Ky.alloc (.cells #[.int .i64 u1, .int .i64 u2] 23)
  replace Kz := Kz.alloc (.cells #[.int .i64 u1, .int .i64 u2] 23)
  replace Ks := Ks.alloc (.cells #[.int .i64 u1, .int .i64 u2] 23)
  replace Km := Km.alloc (.cells #[.int .i64 u1, .int .i64 u2] 23)
  replace Kn := Kn.alloc (.cells #[.int .i64 u1, .int .i64 u2] 23)
  have Ku := Known.made w8 23 #[.int .i64 u1, .int .i64 u2]
  clear cx0 cx1 cy0 cy1 cz0 cz1 cs0 cs1 cm0 cm1 cn0 cn1
  obtain ⟨cx0, cx1⟩ := Kx.two
  obtain ⟨cy0, cy1⟩ := Ky.two
  obtain ⟨cz0, cz1⟩ := Kz.two
  obtain ⟨cs0, cs1⟩ := Ks.two
  obtain ⟨cm0, cm1⟩ := Km.two
  obtain ⟨cn0, cn1⟩ := Kn.two
  obtain ⟨cu0, cu1⟩ := Ku.two
  clear Km cm0 cm1 Kn cn0 cn1 Ks cs0 cs1
  go_wp2_with fail
  refine (A6 _).mono ?_
  rintro e w9 ⟨rfl, hb9⟩
  replace hb := hb.then_ hb9
  replace Kx := Kx.on hb9
  replace Ky := Ky.on hb9
  replace Kz := Kz.on hb9
  replace Ku := Ku.on hb9
  replace hb := hb.then_ (below_new0 _ (.cells #[.int .i64 v1, .int .i64 v2] 23))
  replace Kx := Kx.alloc (.cells #[.int .i64 v1, .int .i64 v2] 23)
  replace Ky := Ky.alloc (.cells #[.int .i64 v1, .int .i64 v2] 23)
  replace Kz := Kz.alloc (.cells #[.int .i64 v1, .int .i64 v2] 23)
  replace Ku := Ku.alloc (.cells #[.int .i64 v1, .int .i64 v2] 23)
  have Kv := Known.made w9 23 #[.int .i64 v1, .int .i64 v2]
  clear cx0 cx1 cy0 cy1 cz0 cz1 cu0 cu1
  obtain ⟨cx0, cx1⟩ := Kx.two
  obtain ⟨cy0, cy1⟩ := Ky.two
  obtain ⟨cz0, cz1⟩ := Kz.two
  obtain ⟨cu0, cu1⟩ := Ku.two
  obtain ⟨cv0, cv1⟩ := Kv.two
  clear Kx cx0 cx1
  go_wp2_with fail
  refine (A7 _).mono ?_
  rintro e w10 ⟨rfl, hb10⟩
  replace hb := hb.then_ hb10
  replace Ky := Ky.on hb10
  replace Kz := Kz.on hb10
  replace Ku := Ku.on hb10
  replace Kv := Kv.on hb10
  replace hb := hb.then_ (below_new0 _ (.cells #[.int .i64 t1, .int .i64 t2] 23))
  replace Ky := Ky.alloc (.cells #[.int .i64 t1, .int .i64 t2] 23)
  replace Kz := Kz.alloc (.cells #[.int .i64 t1, .int .i64 t2] 23)
  replace Ku := Ku.alloc (.cells #[.int .i64 t1, .int .i64 t2] 23)
  replace Kv := Kv.alloc (.cells #[.int .i64 t1, .int .i64 t2] 23)
  have Kw := Known.made w10 23 #[.int .i64 t1, .int .i64 t2]
  clear cy0 cy1 cz0 cz1 cu0 cu1 cv0 cv1
  obtain ⟨cy0, cy1⟩ := Ky.two
  obtain ⟨cz0, cz1⟩ := Kz.two
  obtain ⟨cu0, cu1⟩ := Ku.two
  obtain ⟨cv0, cv1⟩ := Kv.two
  obtain ⟨cw0, cw1⟩ := Kw.two
  clear Ky cy0 cy1 Kz cz0 cz1
  go_wp2_with fail
  refine (A8 _).mono ?_
  rintro e w11 ⟨rfl, hb11⟩
  replace hb := hb.then_ hb11
  replace Ku := Ku.on hb11
  replace Kv := Kv.on hb11
  replace Kw := Kw.on hb11
  replace hb := hb.then_ (below_new0 _ (.cells #[.int .i64 k1, .int .i64 k2] 23))
  replace Ku := Ku.alloc (.cells #[.int .i64 k1, .int .i64 k2] 23)
  replace Kv := Kv.alloc (.cells #[.int .i64 k1, .int .i64 k2] 23)
  replace Kw := Kw.alloc (.cells #[.int .i64 k1, .int .i64 k2] 23)
  have Kk := Known.made w11 23 #[.int .i64 k1, .int .i64 k2]
  clear cu0 cu1 cv0 cv1 cw0 cw1
  obtain ⟨cu0, cu1⟩ := Ku.two
  obtain ⟨cv0, cv1⟩ := Kv.two
  obtain ⟨cw0, cw1⟩ := Kw.two
  obtain ⟨ck0, ck1⟩ := Kk.two
  clear Kv cv0 cv1 Kw cw0 cw1
  by_cases g1 : u3 = 0
  · by_cases g2 : k3 = 0
    · subst g1 g2
      have A10 := A9 rfl rfl
      go_wp2_with fail
      refine (A10 _).mono ?_
      rintro e w12 ⟨rfl, hb12⟩
      replace hb := hb.then_ hb12
      replace Ku := Ku.on hb12
      replace Kk := Kk.on hb12
      replace hb := hb.then_ (below_new0 _ (.cells #[.int .i64 0, .int .i64 1] 23))
      replace Ku := Ku.alloc (.cells #[.int .i64 0, .int .i64 1] 23)
      replace Kk := Kk.alloc (.cells #[.int .i64 0, .int .i64 1] 23)
      have Kr := Known.made w12 23 #[.int .i64 0, .int .i64 1]
      clear cu0 cu1 ck0 ck1
      obtain ⟨cu0, cu1⟩ := Ku.two
      obtain ⟨ck0, ck1⟩ := Kk.two
      obtain ⟨cr0, cr1⟩ := Kr.two
      go_wp2_with fail
      refine (known_any _).mono ?_
      rintro e w13 ⟨rfl, hb13⟩
      go_wp2
      go_ret
      exact ⟨rfl, hb.then_ hb13⟩
    · have g2' : (k3 == 0) = false := by simpa using g2
      have g2'' : (k3 != 0) = true := by simpa using g2
      subst g1
      go_wp2_with fail
      refine (known_any _).mono ?_
      rintro e w12 ⟨rfl, hb12⟩
      go_wp2
      go_ret
      exact ⟨rfl, hb.then_ hb12⟩
  · have g1' : (u3 == 0) = false := by simpa using g1
    have g1'' : (u3 != 0) = true := by simpa using g1
    go_wp2_with fail
    refine (known_any _).mono ?_
    rintro e w12 ⟨rfl, hb12⟩
    go_wp2
    go_ret
    exact ⟨rfl, hb.then_ hb12⟩
end Go.Proofs.YtbddbhamkclndaaDoor
