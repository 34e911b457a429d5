/-
  The law NumberNearest, walked. Conditions: those typed in each theorem.
-/
import Derived.Test.YtbddbhamkclndaaDoorNumOf
import Derived.Deep.RegionWith
namespace Go.Proofs.YtbddbhamkclndaaDoor
open Go.RowKit

theorem made_at {w : World} {g : Nat} (h : w.heap.size = g) (t : TypeId) (cs : Array Value) : Known (w.alloc (.cells cs t)) g t cs := h ▸ Known.made w t cs
set_option maxHeartbeats 40000000 in
theorem law_nearest (a b k : Int) (w : World) :
    Calls Tryd.prog 8 #[.int .i64 a, .int .i64 b, .int .i64 k] w fun e w' => e = .returned (.bool true) ∧ Below w.heap.size w w' := by
  obtain ⟨x1, x2, sx, hx⟩ := of_any a b
  have hB : bits BinOp.and IntKind.i64 k 3 = k % 4 := mask_i64 2 (by decide) k _ (by decide)
  have g0 : 0 ≤ k % 4 := by omega
  have g3 : k % 4 ≤ 3 := by omega
  generalize k % 4 = n at *
  obtain ⟨N, rfl⟩ := Int.eq_ofNat_of_zero_le g0
  obtain ⟨r1, r2, u, e1, v1, e2, vP, vH, e3, hd⟩ := near_law sx g0 g3
  rw [show ((N : Int).toNat) = N by omega] at *
  have hP := pow_bd N (by omega)
  have A2 := roundP_any x1 x2 N (val_i64 sx.1).1 (val_i64 sx.1).2
  rw [e1] at A2
  unfold Ret at A2
  simp only at A2
  have A3 := fun w => powerRef_any N w (by omega)
  have A3B : ∀ w, Calls Tryd.prog 32 #[.int .i64 N] w fun e w' => e = .returned (.int .i64 ((10 : Int) ^ N)) ∧ Below w.heap.size w w' := fun w => (powerRef_any N w (by omega)).mono (by rintro e w' ⟨rfl, rfl⟩; exact ⟨rfl, Below.refl _ _⟩)
  obtain ⟨⟨d1, d2, d3⟩, ed⟩ : ∃ r, subV x1 x2 r1 r2 = r := ⟨_, rfl⟩
  rw [ed] at hd
  simp only at hd
  generalize hQ : (10 : Int) ^ N = P at *
  have ix := val_i64 sx.1
  have ir := val_i64 v1
  have iP := val_i64 vP
  have iH := val_i64 vH
  have A4 : Ret3 29 r1 r2 P 1 u 1 0 := (mulP_any _ _ _ _ ir.1 ir.2 iP.1 iP.2).to3 e2
  have A5 : Ret3 30 x1 x2 r1 r2 d1 d2 d3 := (subP_any _ _ _ _ ix.1 ix.2 ir.1 ir.2).to3 ed
  have A6 : ∀ w, Calls Tryd.prog 17 #[.agg #[.int .i64 1, .int .i64 (2 * P)]] w fun e w' => e = .returned (.bool true) ∧ Below w.heap.size w w' := fun w => vH ▸ validRef_any 1 (2 * P) w iH.1 iH.2
  have A7 : Ret3 30 0 1 1 (2 * P) (-1) (2 * P) 0 := (subP_any _ _ _ _ (by unfold I64; omega) (by unfold I64; omega) iH.1 iH.2).to3 e3
  clear g0 g3 e1 e2 e3 ed sx ix ir iP
  go_enter Tryd.func8, Tryd.ntmps8
  go_wp2_with fail
  refine (hx _).mono ?_
  rintro e w1 ⟨rfl, hb1⟩
  have hb := hb1
  replace hb := hb.then_ (below_new0 _ (.cells #[.int .i64 x1, .int .i64 x2] 23))
  have Kx := Known.made w1 23 #[.int .i64 x1, .int .i64 x2]
  obtain ⟨cx0, cx1⟩ := Kx.two
  go_wp2_with fail
  refine (A2 _).mono ?_
  rintro e w2 ⟨rfl, hb2⟩
  replace hb := hb.then_ hb2
  replace Kx := Kx.on hb2
  replace hb := hb.then_ (below_new0 _ (.cells #[.int .i64 r1, .int .i64 r2] 23))
  replace Kx := Kx.alloc (.cells #[.int .i64 r1, .int .i64 r2] 23)
  have Kr := Known.made w2 23 #[.int .i64 r1, .int .i64 r2]
  clear cx0 cx1
  obtain ⟨cx0, cx1⟩ := Kx.two
  obtain ⟨cr0, cr1⟩ := Kr.two
  have hge : w.heap.size ≤ w2.heap.size + 1 := by have := hb.size; simpa using this
  have hnx : w1.heap.size ≠ w2.heap.size + 1 := by have := Kx.lt; simp at this; omega
  go_wp2_with fail
  go_region_with (first
    | (go_at_call 32; refine (A3 _).mono ?_; rintro e w3 ⟨rfl, rfl⟩)
    | (go_at_call 29; refine (A4 _).mono ?_; rintro e w4 ⟨rfl, hb4⟩; first | (have KU := (made_at (g := w2.heap.size + 1) (by simp) 23 #[.int .i64 0, .int .i64 0]).on hb4; obtain ⟨cu0, cu1⟩ := KU.two; have fu0 := KU.free 0; have fu1 := KU.free 1) | (have KU := ((made_at (w := w2.alloc (.cells #[.int .i64 r1, .int .i64 r2] 23)) (g := w2.heap.size + 1) (by simp) 23 #[.int .i64 0, .int .i64 0]).on (Below.refl _ _).drew).on hb4; obtain ⟨cu0, cu1⟩ := KU.two; have fu0 := KU.free 0; have fu1 := KU.free 1) | skip))
  all_goals (
    first
      | (have hbF := (((hb.then_ (below_new0 _ (.cells #[.int .i64 0, .int .i64 0] 23))).drew.then_ hb4).setCell (p := ⟨w2.heap.size + 1, 0, none⟩) hge (.int .i64 u)).setCell (p := ⟨w2.heap.size + 1, 1, none⟩) hge (.int .i64 1)
         have KxF := ((((Kx.alloc (.cells #[.int .i64 0, .int .i64 0] 23)).on (Below.refl _ _).drew).on hb4).far (p := ⟨w2.heap.size + 1, 0, none⟩) hnx (.int .i64 u)).far (p := ⟨w2.heap.size + 1, 1, none⟩) hnx (.int .i64 1)
         have KrF := ((((Kr.alloc (.cells #[.int .i64 0, .int .i64 0] 23)).on (Below.refl _ _).drew).on hb4).far (p := ⟨w2.heap.size + 1, 0, none⟩) (by simp) (.int .i64 u)).far (p := ⟨w2.heap.size + 1, 1, none⟩) (by simp) (.int .i64 1)
         have KuF : Known _ _ _ #[.int .i64 u, .int .i64 1] := (KU.put 0 (.int .i64 u)).put 1 (.int .i64 1))
      | (have hbF := (hb.drew.then_ hb4).then_ (below_new0 w4 (.cells #[.int .i64 u, .int .i64 1] 23))
         have KxF := ((Kx.on (Below.refl _ _).drew).on hb4).alloc (.cells #[.int .i64 u, .int .i64 1] 23)
         have KrF := ((Kr.on (Below.refl _ _).drew).on hb4).alloc (.cells #[.int .i64 u, .int .i64 1] 23)
         have KuF := Known.made w4 23 #[.int .i64 u, .int .i64 1])
    clear hb Kx Kr cx0 cx1 cr0 cr1
    have hb := hbF
    have Kx := KxF
    have Kr := KrF
    have Ku := KuF
    clear hbF KxF KrF KuF
    obtain ⟨cx0, cx1⟩ := Kx.two
    obtain ⟨cr0, cr1⟩ := Kr.two
    obtain ⟨cu0, cu1⟩ := Ku.two
    go_wp2_with fail
    refine (A5 _).mono ?_
    rintro e w5 ⟨rfl, hb5⟩
    replace hb := hb.then_ hb5
    replace Kx := Kx.on hb5
    replace Kr := Kr.on hb5
    replace Ku := Ku.on hb5
    replace hb := hb.then_ (below_new0 _ (.cells #[.int .i64 d1, .int .i64 d2] 23))
    replace Kx := Kx.alloc (.cells #[.int .i64 d1, .int .i64 d2] 23)
    replace Kr := Kr.alloc (.cells #[.int .i64 d1, .int .i64 d2] 23)
    replace Ku := Ku.alloc (.cells #[.int .i64 d1, .int .i64 d2] 23)
    have Kd := Known.made w5 23 #[.int .i64 d1, .int .i64 d2]
    clear cx0 cx1 cr0 cr1 cu0 cu1
    obtain ⟨cx0, cx1⟩ := Kx.two
    obtain ⟨cr0, cr1⟩ := Kr.two
    obtain ⟨cu0, cu1⟩ := Ku.two
    obtain ⟨cd0, cd1⟩ := Kd.two
    clear Kx cx0 cx1 Kr cr0 cr1
    by_cases g : d3 = 0
    · obtain ⟨vd, h1, h2⟩ := hd g
      have id := val_i64 vd
      have C1 := cmp_any d1 d2 1 (2 * P) id.1 id.2 iH.1 iH.2
      have C2 := cmp_any d1 d2 (-1) (2 * P) id.1 id.2 (by unfold I64; omega) iH.2
      generalize cmpN d1 d2 1 (2 * P) = m1 at *
      generalize cmpN d1 d2 (-1) (2 * P) = m2 at *
      have h1' : decide (m1 ≤ 0) = true := by simpa using h1
      have h2' : decide (0 ≤ m2) = true := by simpa using h2
      subst g
      go_wp2_with fail
      refine (A3B _).mono ?_
      rintro e w6 ⟨rfl, hb6⟩
      replace hb := hb.then_ hb6
      replace Ku := Ku.on hb6
      replace Kd := Kd.on hb6
      replace hb := hb.then_ (below_new0 _ (.cells #[.int .i64 1, .int .i64 (2 * P)] 23))
      replace Ku := Ku.alloc (.cells #[.int .i64 1, .int .i64 (2 * P)] 23)
      replace Kd := Kd.alloc (.cells #[.int .i64 1, .int .i64 (2 * P)] 23)
      have Kh := Known.made w6 23 #[.int .i64 1, .int .i64 (2 * P)]
      clear cu0 cu1 cd0 cd1
      obtain ⟨cu0, cu1⟩ := Ku.two
      obtain ⟨cd0, cd1⟩ := Kd.two
      obtain ⟨ch0, ch1⟩ := Kh.two
      go_wp2_with fail
      refine (A6 _).mono ?_
      rintro e w7 ⟨rfl, hb7⟩
      replace hb := hb.then_ hb7
      replace Ku := Ku.on hb7
      replace Kd := Kd.on hb7
      replace Kh := Kh.on hb7
      clear cu0 cu1 cd0 cd1 ch0 ch1
      obtain ⟨cu0, cu1⟩ := Ku.two
      obtain ⟨cd0, cd1⟩ := Kd.two
      obtain ⟨ch0, ch1⟩ := Kh.two
      clear cu0 cu1 cd0 cd1 ch0 ch1
      obtain ⟨cu0, cu1⟩ := Ku.two
      obtain ⟨cd0, cd1⟩ := Kd.two
      obtain ⟨ch0, ch1⟩ := Kh.two
      go_wp2_with fail
      refine (A7 _).mono ?_
      rintro e w8 ⟨rfl, hb8⟩
      replace hb := hb.then_ hb8
      replace Ku := Ku.on hb8
      replace Kd := Kd.on hb8
      replace Kh := Kh.on hb8
      replace hb := hb.then_ (below_new0 _ (.cells #[.int .i64 (-1), .int .i64 (2 * P)] 23))
      replace Ku := Ku.alloc (.cells #[.int .i64 (-1), .int .i64 (2 * P)] 23)
      replace Kd := Kd.alloc (.cells #[.int .i64 (-1), .int .i64 (2 * P)] 23)
      replace Kh := Kh.alloc (.cells #[.int .i64 (-1), .int .i64 (2 * P)] 23)
      have Km := Known.made w8 23 #[.int .i64 (-1), .int .i64 (2 * P)]
      clear cu0 cu1 cd0 cd1 ch0 ch1
      obtain ⟨cu0, cu1⟩ := Ku.two
      obtain ⟨cd0, cd1⟩ := Kd.two
      obtain ⟨ch0, ch1⟩ := Kh.two
      obtain ⟨cm0, cm1⟩ := Km.two
      go_wp2_with fail
      refine (C1 _).mono ?_
      rintro e w9 ⟨rfl, hb9⟩
      replace hb := hb.then_ hb9
      replace Ku := Ku.on hb9
      replace Kd := Kd.on hb9
      replace Kh := Kh.on hb9
      replace Km := Km.on hb9
      clear cu0 cu1 cd0 cd1 ch0 ch1 cm0 cm1
      obtain ⟨cu0, cu1⟩ := Ku.two
      obtain ⟨cd0, cd1⟩ := Kd.two
      obtain ⟨ch0, ch1⟩ := Kh.two
      obtain ⟨cm0, cm1⟩ := Km.two
      clear cu0 cu1 cd0 cd1 ch0 ch1 cm0 cm1
      obtain ⟨cu0, cu1⟩ := Ku.two
      obtain ⟨cd0, cd1⟩ := Kd.two
      obtain ⟨ch0, ch1⟩ := Kh.two
      obtain ⟨cm0, cm1⟩ := Km.two
      go_wp2_with fail
      refine (C2 _).mono ?_
      rintro e w10 ⟨rfl, hb10⟩
      replace hb := hb.then_ hb10
      replace Ku := Ku.on hb10
      replace Kd := Kd.on hb10
      replace Kh := Kh.on hb10
      replace Km := Km.on hb10
      clear cu0 cu1 cd0 cd1 ch0 ch1 cm0 cm1
      obtain ⟨cu0, cu1⟩ := Ku.two
      obtain ⟨cd0, cd1⟩ := Kd.two
      obtain ⟨ch0, ch1⟩ := Kh.two
      obtain ⟨cm0, cm1⟩ := Km.two
      go_wp2_with fail
      refine (known_any _).mono ?_
      rintro e w11 ⟨rfl, hb11⟩
      go_wp2
      go_ret
      exact ⟨rfl, hb.then_ hb11⟩
    · have g' : (d3 == 0) = false := by simpa using g
      have g'' : (d3 != 0) = true := by simpa using g
      go_wp2_with fail
      refine (A3B _).mono ?_
      rintro e w6 ⟨rfl, hb6⟩
      replace hb := hb.then_ hb6
      replace Ku := Ku.on hb6
      replace Kd := Kd.on hb6
      replace hb := hb.then_ (below_new0 _ (.cells #[.int .i64 1, .int .i64 (2 * P)] 23))
      replace Ku := Ku.alloc (.cells #[.int .i64 1, .int .i64 (2 * P)] 23)
      replace Kd := Kd.alloc (.cells #[.int .i64 1, .int .i64 (2 * P)] 23)
      have Kh := Known.made w6 23 #[.int .i64 1, .int .i64 (2 * P)]
      clear cu0 cu1 cd0 cd1
      obtain ⟨cu0, cu1⟩ := Ku.two
      obtain ⟨cd0, cd1⟩ := Kd.two
      obtain ⟨ch0, ch1⟩ := Kh.two
      go_wp2_with fail
      refine (A6 _).mono ?_
      rintro e w7 ⟨rfl, hb7⟩
      replace hb := hb.then_ hb7
      replace Ku := Ku.on hb7
      replace Kd := Kd.on hb7
      replace Kh := Kh.on hb7
      clear cu0 cu1 cd0 cd1 ch0 ch1
      obtain ⟨cu0, cu1⟩ := Ku.two
      obtain ⟨cd0, cd1⟩ := Kd.two
      obtain ⟨ch0, ch1⟩ := Kh.two
      clear cu0 cu1 cd0 cd1 ch0 ch1
      obtain ⟨cu0, cu1⟩ := Ku.two
      obtain ⟨cd0, cd1⟩ := Kd.two
      obtain ⟨ch0, ch1⟩ := Kh.two
      go_wp2_with fail
      refine (known_any _).mono ?_
      rintro e w8 ⟨rfl, hb8⟩
      go_wp2
      go_ret
      exact ⟨rfl, hb.then_ hb8⟩)
end Go.Proofs.YtbddbhamkclndaaDoor
