/-
  The law NumberMod, walked. Conditions: those typed in each theorem.
-/
import Derived.Test.YtbddbhamkclndaaDoorNumOf
namespace Go.Proofs.YtbddbhamkclndaaDoor
open Go.RowKit

set_option maxHeartbeats 4000000 in
theorem law_mod (a b c d : Int) (w : World) :
    Calls Tryd.prog 10 #[.int .i64 a, .int .i64 b, .int .i64 c, .int .i64 d] w fun e w' => e = .returned (.bool true) ∧ Below w.heap.size w w' := by
  obtain ⟨x1, x2, sx, hx⟩ := of_any a b
  obtain ⟨y1, y2, sy, hy⟩ := of_any c d
  have ix := val_i64 sx.1
  have iy := val_i64 sy.1
  by_cases hc : y1 = 0
  · subst hc
    have A1 : Ret3 34 x1 x2 0 y2 0 0 16 := (modP_any _ _ _ _ ix.1 ix.2 iy.1 iy.2).to3 (mod_zero sx.1 sy.1)
    clear sx sy ix iy
    go_enter Tryd.func10, Tryd.ntmps10
    go_wp2_with fail
    refine (hx _).mono ?_
    rintro e w1 ⟨rfl, hb1⟩
    have hb := hb1
    go_wp2_with fail
    refine (hy _).mono ?_
    rintro e w2 ⟨rfl, hb2⟩
    replace hb := hb.then_ hb2
    replace hb := hb.then_ (below_new0 _ (.cells #[.int .i64 x1, .int .i64 x2] 23))
    have Kx := Known.made w2 23 #[.int .i64 x1, .int .i64 x2]
    replace hb := hb.then_ (below_new0 _ (.cells #[.int .i64 0, .int .i64 y2] 23))
    replace Kx := Kx.alloc (.cells #[.int .i64 0, .int .i64 y2] 23)
    have Ky := Known.made2 w2 23 #[.int .i64 0, .int .i64 y2] (.cells #[.int .i64 x1, .int .i64 x2] 23)
    obtain ⟨cx0, cx1⟩ := Kx.two
    obtain ⟨cy0, cy1⟩ := Ky.two
    go_wp2_with fail
    refine (A1 _).mono ?_
    rintro e w3 ⟨rfl, hb3⟩
    replace hb := hb.then_ hb3
    replace Kx := Kx.on hb3
    replace Ky := Ky.on hb3
    replace hb := hb.then_ (below_new0 _ (.cells #[.int .i64 0, .int .i64 0] 23))
    replace Kx := Kx.alloc (.cells #[.int .i64 0, .int .i64 0] 23)
    replace Ky := Ky.alloc (.cells #[.int .i64 0, .int .i64 0] 23)
    have Kr := Known.made w3 23 #[.int .i64 0, .int .i64 0]
    clear cx0 cx1 cy0 cy1
    obtain ⟨cx0, cx1⟩ := Kx.two
    obtain ⟨cy0, cy1⟩ := Ky.two
    obtain ⟨cr0, cr1⟩ := Kr.two
    go_wp2_with fail
    refine (known_any _).mono ?_
    rintro e w4 ⟨rfl, hb4⟩
    go_wp2
    go_ret
    exact ⟨rfl, hb.then_ hb4⟩
  obtain ⟨p, q, s, t, k, e1, e2, e3, v1, v2, hp, hn⟩ := mod_law sx sy hc
  have ip := val_i64 v1
  have is := val_i64 v2
  have A1 : Ret3 34 x1 x2 y1 y2 p q 0 := (modP_any _ _ _ _ ix.1 ix.2 iy.1 iy.2).to3 e1
  have A2 : Ret3 30 x1 x2 p q s t 0 := (subP_any _ _ _ _ ix.1 ix.2 ip.1 ip.2).to3 e2
  have A3 : Ret3 33 s t y1 y2 k 1 0 := (divP_any _ _ _ _ is.1 is.2 iy.1 iy.2).to3 e3
  have A4 := cmp_any p q 0 1 ip.1 ip.2 (by unfold I64; omega) (by unfold I64; omega)
  have A5 := cmp_any p q y1 y2 ip.1 ip.2 iy.1 iy.2
  have hc' : (y1 == 0) = false := by simpa using hc
  generalize cmpN p q 0 1 = m at *
  generalize cmpN p q y1 y2 = n at *
  clear e1 e2 e3 v1 v2 sx sy ix iy ip is hc
  by_cases h : 0 < y1
  · obtain ⟨h1, h2⟩ := hp h
    have h' : decide (0 < y1) = true := by simpa using h
    have h1' : decide (0 ≤ m) = true := by simpa using h1
    have h2' : decide (n < 0) = true := by simpa using h2
    clear hp hn
    go_enter Tryd.func10, Tryd.ntmps10
    go_wp2_with fail
    refine (hx _).mono ?_
    rintro e w1 ⟨rfl, hb1⟩
    have hb := hb1
    go_wp2_with fail
    refine (hy _).mono ?_
    rintro e w2 ⟨rfl, hb2⟩
    replace hb := hb.then_ hb2
    replace hb := hb.then_ (below_new0 _ (.cells #[.int .i64 x1, .int .i64 x2] 23))
    have Kx := Known.made w2 23 #[.int .i64 x1, .int .i64 x2]
    replace hb := hb.then_ (below_new0 _ (.cells #[.int .i64 y1, .int .i64 y2] 23))
    replace Kx := Kx.alloc (.cells #[.int .i64 y1, .int .i64 y2] 23)
    have Ky := Known.made2 w2 23 #[.int .i64 y1, .int .i64 y2] (.cells #[.int .i64 x1, .int .i64 x2] 23)
    obtain ⟨cx0, cx1⟩ := Kx.two
    obtain ⟨cy0, cy1⟩ := Ky.two
    go_wp2_with fail
    refine (A1 _).mono ?_
    rintro e w3 ⟨rfl, hb3⟩
    replace hb := hb.then_ hb3
    replace Kx := Kx.on hb3
    replace Ky := Ky.on hb3
    replace hb := hb.then_ (below_new0 _ (.cells #[.int .i64 p, .int .i64 q] 23))
    replace Kx := Kx.alloc (.cells #[.int .i64 p, .int .i64 q] 23)
    replace Ky := Ky.alloc (.cells #[.int .i64 p, .int .i64 q] 23)
    have Kr := Known.made w3 23 #[.int .i64 p, .int .i64 q]
    clear cx0 cx1 cy0 cy1
    obtain ⟨cx0, cx1⟩ := Kx.two
    obtain ⟨cy0, cy1⟩ := Ky.two
    obtain ⟨cr0, cr1⟩ := Kr.two
    go_wp2_with fail
    refine (A2 _).mono ?_
    rintro e w4 ⟨rfl, hb4⟩
    replace hb := hb.then_ hb4
    replace Kx := Kx.on hb4
    replace Ky := Ky.on hb4
    replace Kr := Kr.on hb4
    replace hb := hb.then_ (below_new0 _ (.cells #[.int .i64 s, .int .i64 t] 23))
    replace Kx := Kx.alloc (.cells #[.int .i64 s, .int .i64 t] 23)
    replace Ky := Ky.alloc (.cells #[.int .i64 s, .int .i64 t] 23)
    replace Kr := Kr.alloc (.cells #[.int .i64 s, .int .i64 t] 23)
    have Ks := Known.made w4 23 #[.int .i64 s, .int .i64 t]
    clear cx0 cx1 cy0 cy1 cr0 cr1
    obtain ⟨cx0, cx1⟩ := Kx.two
    obtain ⟨cy0, cy1⟩ := Ky.two
    obtain ⟨cr0, cr1⟩ := Kr.two
    obtain ⟨cs0, cs1⟩ := Ks.two
    clear Kx cx0 cx1
    go_wp2_with fail
    refine (A3 _).mono ?_
    rintro e w5 ⟨rfl, hb5⟩
    replace hb := hb.then_ hb5
    replace Ky := Ky.on hb5
    replace Kr := Kr.on hb5
    replace Ks := Ks.on hb5
    replace hb := hb.then_ (below_new0 _ (.cells #[.int .i64 k, .int .i64 1] 23))
    replace Ky := Ky.alloc (.cells #[.int .i64 k, .int .i64 1] 23)
    replace Kr := Kr.alloc (.cells #[.int .i64 k, .int .i64 1] 23)
    replace Ks := Ks.alloc (.cells #[.int .i64 k, .int .i64 1] 23)
    have Kq := Known.made w5 23 #[.int .i64 k, .int .i64 1]
    replace hb := hb.then_ (below_new0 _ (.cells #[.int .i64 0, .int .i64 1] 23))
    replace Ky := Ky.alloc (.cells #[.int .i64 0, .int .i64 1] 23)
    replace Kr := Kr.alloc (.cells #[.int .i64 0, .int .i64 1] 23)
    replace Ks := Ks.alloc (.cells #[.int .i64 0, .int .i64 1] 23)
    replace Kq := Kq.alloc (.cells #[.int .i64 0, .int .i64 1] 23)
    have Kz := Known.made2 w5 23 #[.int .i64 0, .int .i64 1] (.cells #[.int .i64 k, .int .i64 1] 23)
    clear cy0 cy1 cr0 cr1 cs0 cs1
    obtain ⟨cy0, cy1⟩ := Ky.two
    obtain ⟨cr0, cr1⟩ := Kr.two
    obtain ⟨cs0, cs1⟩ := Ks.two
    obtain ⟨cq0, cq1⟩ := Kq.two
    obtain ⟨cz0, cz1⟩ := Kz.two
    clear Ks cs0 cs1
    go_wp2_with fail
    refine (A4 _).mono ?_
    rintro e w6 ⟨rfl, hb6⟩
    replace hb := hb.then_ hb6
    replace Ky := Ky.on hb6
    replace Kr := Kr.on hb6
    replace Kq := Kq.on hb6
    replace Kz := Kz.on hb6
    clear cy0 cy1 cr0 cr1 cq0 cq1 cz0 cz1
    obtain ⟨cy0, cy1⟩ := Ky.two
    obtain ⟨cr0, cr1⟩ := Kr.two
    obtain ⟨cq0, cq1⟩ := Kq.two
    obtain ⟨cz0, cz1⟩ := Kz.two
    clear cy0 cy1 cr0 cr1 cq0 cq1 cz0 cz1
    obtain ⟨cy0, cy1⟩ := Ky.two
    obtain ⟨cr0, cr1⟩ := Kr.two
    obtain ⟨cq0, cq1⟩ := Kq.two
    obtain ⟨cz0, cz1⟩ := Kz.two
    go_wp2_with fail
    refine (A5 _).mono ?_
    rintro e w7 ⟨rfl, hb7⟩
    replace hb := hb.then_ hb7
    replace Ky := Ky.on hb7
    replace Kr := Kr.on hb7
    replace Kq := Kq.on hb7
    replace Kz := Kz.on hb7
    clear cy0 cy1 cr0 cr1 cq0 cq1 cz0 cz1
    obtain ⟨cy0, cy1⟩ := Ky.two
    obtain ⟨cr0, cr1⟩ := Kr.two
    obtain ⟨cq0, cq1⟩ := Kq.two
    obtain ⟨cz0, cz1⟩ := Kz.two
    go_wp2_with fail
    refine (known_any _).mono ?_
    rintro e w8 ⟨rfl, hb8⟩
    go_wp2
    go_ret
    exact ⟨rfl, hb.then_ hb8⟩
  · obtain ⟨h1, h2⟩ := hn h
    have h' : decide (0 < y1) = false := by simpa using h
    have h1' : decide (m ≤ 0) = true := by simpa using h1
    have h2' : decide (0 < n) = true := by simpa using h2
    clear hp hn
    go_enter Tryd.func10, Tryd.ntmps10
    go_wp2_with fail
    refine (hx _).mono ?_
    rintro e w1 ⟨rfl, hb1⟩
    have hb := hb1
    go_wp2_with fail
    refine (hy _).mono ?_
    rintro e w2 ⟨rfl, hb2⟩
    replace hb := hb.then_ hb2
    replace hb := hb.then_ (below_new0 _ (.cells #[.int .i64 x1, .int .i64 x2] 23))
    have Kx := Known.made w2 23 #[.int .i64 x1, .int .i64 x2]
    replace hb := hb.then_ (below_new0 _ (.cells #[.int .i64 y1, .int .i64 y2] 23))
    replace Kx := Kx.alloc (.cells #[.int .i64 y1, .int .i64 y2] 23)
    have Ky := Known.made2 w2 23 #[.int .i64 y1, .int .i64 y2] (.cells #[.int .i64 x1, .int .i64 x2] 23)
    obtain ⟨cx0, cx1⟩ := Kx.two
    obtain ⟨cy0, cy1⟩ := Ky.two
    go_wp2_with fail
    refine (A1 _).mono ?_
    rintro e w3 ⟨rfl, hb3⟩
    replace hb := hb.then_ hb3
    replace Kx := Kx.on hb3
    replace Ky := Ky.on hb3
    replace hb := hb.then_ (below_new0 _ (.cells #[.int .i64 p, .int .i64 q] 23))
    replace Kx := Kx.alloc (.cells #[.int .i64 p, .int .i64 q] 23)
    replace Ky := Ky.alloc (.cells #[.int .i64 p, .int .i64 q] 23)
    have Kr := Known.made w3 23 #[.int .i64 p, .int .i64 q]
    clear cx0 cx1 cy0 cy1
    obtain ⟨cx0, cx1⟩ := Kx.two
    obtain ⟨cy0, cy1⟩ := Ky.two
    obtain ⟨cr0, cr1⟩ := Kr.two
    go_wp2_with fail
    refine (A2 _).mono ?_
    rintro e w4 ⟨rfl, hb4⟩
    replace hb := hb.then_ hb4
    replace Kx := Kx.on hb4
    replace Ky := Ky.on hb4
    replace Kr := Kr.on hb4
    replace hb := hb.then_ (below_new0 _ (.cells #[.int .i64 s, .int .i64 t] 23))
    replace Kx := Kx.alloc (.cells #[.int .i64 s, .int .i64 t] 23)
    replace Ky := Ky.alloc (.cells #[.int .i64 s, .int .i64 t] 23)
    replace Kr := Kr.alloc (.cells #[.int .i64 s, .int .i64 t] 23)
    have Ks := Known.made w4 23 #[.int .i64 s, .int .i64 t]
    clear cx0 cx1 cy0 cy1 cr0 cr1
    obtain ⟨cx0, cx1⟩ := Kx.two
    obtain ⟨cy0, cy1⟩ := Ky.two
    obtain ⟨cr0, cr1⟩ := Kr.two
    obtain ⟨cs0, cs1⟩ := Ks.two
    clear Kx cx0 cx1
    go_wp2_with fail
    refine (A3 _).mono ?_
    rintro e w5 ⟨rfl, hb5⟩
    replace hb := hb.then_ hb5
    replace Ky := Ky.on hb5
    replace Kr := Kr.on hb5
    replace Ks := Ks.on hb5
    replace hb := hb.then_ (below_new0 _ (.cells #[.int .i64 k, .int .i64 1] 23))
    replace Ky := Ky.alloc (.cells #[.int .i64 k, .int .i64 1] 23)
    replace Kr := Kr.alloc (.cells #[.int .i64 k, .int .i64 1] 23)
    replace Ks := Ks.alloc (.cells #[.int .i64 k, .int .i64 1] 23)
    have Kq := Known.made w5 23 #[.int .i64 k, .int .i64 1]
    replace hb := hb.then_ (below_new0 _ (.cells #[.int .i64 0, .int .i64 1] 23))
    replace Ky := Ky.alloc (.cells #[.int .i64 0, .int .i64 1] 23)
    replace Kr := Kr.alloc (.cells #[.int .i64 0, .int .i64 1] 23)
    replace Ks := Ks.alloc (.cells #[.int .i64 0, .int .i64 1] 23)
    replace Kq := Kq.alloc (.cells #[.int .i64 0, .int .i64 1] 23)
    have Kz := Known.made2 w5 23 #[.int .i64 0, .int .i64 1] (.cells #[.int .i64 k, .int .i64 1] 23)
    clear cy0 cy1 cr0 cr1 cs0 cs1
    obtain ⟨cy0, cy1⟩ := Ky.two
    obtain ⟨cr0, cr1⟩ := Kr.two
    obtain ⟨cs0, cs1⟩ := Ks.two
    obtain ⟨cq0, cq1⟩ := Kq.two
    obtain ⟨cz0, cz1⟩ := Kz.two
    clear Ks cs0 cs1
    go_wp2_with fail
    refine (A4 _).mono ?_
    rintro e w6 ⟨rfl, hb6⟩
    replace hb := hb.then_ hb6
    replace Ky := Ky.on hb6
    replace Kr := Kr.on hb6
    replace Kq := Kq.on hb6
    replace Kz := Kz.on hb6
    clear cy0 cy1 cr0 cr1 cq0 cq1 cz0 cz1
    obtain ⟨cy0, cy1⟩ := Ky.two
    obtain ⟨cr0, cr1⟩ := Kr.two
    obtain ⟨cq0, cq1⟩ := Kq.two
    obtain ⟨cz0, cz1⟩ := Kz.two
    clear cy0 cy1 cr0 cr1 cq0 cq1 cz0 cz1
    obtain ⟨cy0, cy1⟩ := Ky.two
    obtain ⟨cr0, cr1⟩ := Kr.two
    obtain ⟨cq0, cq1⟩ := Kq.two
    obtain ⟨cz0, cz1⟩ := Kz.two
    go_wp2_with fail
    refine (A5 _).mono ?_
    rintro e w7 ⟨rfl, hb7⟩
    replace hb := hb.then_ hb7
    replace Ky := Ky.on hb7
    replace Kr := Kr.on hb7
    replace Kq := Kq.on hb7
    replace Kz := Kz.on hb7
    clear cy0 cy1 cr0 cr1 cq0 cq1 cz0 cz1
    obtain ⟨cy0, cy1⟩ := Ky.two
    obtain ⟨cr0, cr1⟩ := Kr.two
    obtain ⟨cq0, cq1⟩ := Kq.two
    obtain ⟨cz0, cz1⟩ := Kz.two
    go_wp2_with fail
    refine (known_any _).mono ?_
    rintro e w8 ⟨rfl, hb8⟩
    go_wp2
    go_ret
    exact ⟨rfl, hb.then_ hb8⟩
end Go.Proofs.YtbddbhamkclndaaDoor
