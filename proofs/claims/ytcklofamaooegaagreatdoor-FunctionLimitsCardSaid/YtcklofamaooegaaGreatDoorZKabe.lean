/-
  The claim's own texts, packed. Conditions: those typed in each theorem.
-/
import Derived.Test.YtcklofamaooegaaGreatDoorZKaba
import Derived.Test.YtcklofamaooegaaGreatDoorZKaao
set_option maxHeartbeats 4000000
set_option maxRecDepth 10000
set_option linter.unusedVariables false
namespace Go.Proofs.YtcklofamaooegaaGreatDoor
open Go.RowKit
variable {N : Nat}
theorem ans_unz {g z : Nat} {w w4 : World} {y : Form.Res} {b : Bool} {rest : List ByteArray} {op o2 s2 : ByteArray} {p2 : Option Addr} {m2 : Nat} (e : w4.heap.size = z) (hg : g < w.heap.size) (hz : w.heap.size < w4.heap.size) (st : Step g w w4)
  (gd : b = false → NL (fun i => w.heap.size < i) w4 y.T o2 s2 p2 m2 ∧ RS N g w4 rest) (bd : b = true → RB g w4) :
  Ans N g w ⟨.un op y.T, rest, b⟩ (.returned (.agg #[.string op, .string ⟨#[]⟩, .slice (some ⟨z, 0, none⟩) 1 1]))
   ((((w4.setCell ⟨w.heap.size, 0, none⟩ (.string op)).setCell ⟨w.heap.size, 1, none⟩ (.string ⟨#[]⟩)).setCell ⟨w.heap.size, 2, none⟩ (.slice (some ⟨z, 0, none⟩) 1 1)).alloc (.cells #[.string o2, .string s2, .slice p2 m2 m2] 108)) := by
 subst e
 exact ans_un hg hz st gd bd
theorem ans_put2 {g : Nat} {w w1 : World} {r : Form.Res} {o s : ByteArray} {p : Option Addr} {n : Nat} (hg : g < w.heap.size) (st : Step g w w1)
  (gd : r.bad = false → NL (fun i => w.heap.size < i) w1 r.T o s p n ∧ RS N g w1 r.rest) (bd : r.bad = true → RB g w1) :
  Ans N g w r (.returned (.agg #[.string o, .string s, .slice p n n])) (((w1.setCell ⟨w.heap.size, 0, none⟩ (.string o)).setCell ⟨w.heap.size, 1, none⟩ (.string s)).setCell ⟨w.heap.size, 2, none⟩ (.slice p n n)) := by
 have BZ : Below (g + 1) w1 (((w1.setCell ⟨w.heap.size, 0, none⟩ (.string o)).setCell ⟨w.heap.size, 1, none⟩ (.string s)).setCell ⟨w.heap.size, 2, none⟩ (.slice p n n)) := (((Below.refl (g + 1) w1).setCell (p := ⟨w.heap.size, 0, none⟩) (show g + 1 ≤ w.heap.size by omega) _).setCell (p := ⟨w.heap.size, 1, none⟩) (show g + 1 ≤ w.heap.size by omega) _).setCell (p := ⟨w.heap.size, 2, none⟩) (show g + 1 ≤ w.heap.size by omega) _
 have hq : ∀ i, w.heap.size < i → i ≠ w.heap.size := fun i hi => by omega
 exact ⟨o, s, p, n, rfl, ((st.far (Nat.le_refl _) (by omega) _).far (Nat.le_refl _) (by omega) _).far (Nat.le_refl _) (by omega) _, fun h => ⟨((((gd h).1.put hq).put hq).put hq).mono (fun i hi => by omega), (gd h).2.keep BZ⟩, fun h => (bd h).keep BZ⟩
theorem primR_nil (g : Nat) (w : World) (hs : RS N g w []) :
  Calls Tryz.prog 236 #[.pointer (some ⟨g, 0, none⟩)] w (Ans N g w ⟨.num ⟨#[]⟩, [], true⟩) := by
 have hg := hs.lt
 obtain ⟨p, n, c, hn, c0, c1, c2, -, -⟩ := hs.nil
 have gg : decide ((n : Int) ≤ (n : Int)) = true := by simp
 have hV := fun w5 => hs.below ((below_new0 w (.cells #[.string ⟨#[]⟩, .string ⟨#[]⟩, .slice none 0 0] 108)).trans ((gr_below (w.alloc (.cells #[.string ⟨#[]⟩, .string ⟨#[]⟩, .slice none 0 0] 108)) w5).mono (by simp)))
 clear hs
 go_enter Tryz.func236, Tryz.ntmps236
 go_wp2_with fail
 refine wp_region_gr (by kernel_rfl) (by kernel_rfl) ?_
 repeat (go_big_quiet_step (fail))
 refine wpQuiet_nil ?_
 intro _ hw'; obtain ⟨w5, hw''⟩ := hw'; subst hw''
 obtain ⟨p', n', c', -, -, -, d2, f2, hRB⟩ := (hV w5).nil
 have KR := (Known.made w 108 #[.string ⟨#[]⟩, .string ⟨#[]⟩, .slice none 0 0]).on (gr_below _ w5)
 have st : Step g (w.alloc (.cells #[.string ⟨#[]⟩, .string ⟨#[]⟩, .slice none 0 0] 108)) ((gr (w.alloc (.cells #[.string ⟨#[]⟩, .string ⟨#[]⟩, .slice none 0 0] 108)) w5).setCell ⟨g, 2, none⟩ (.bool true)) := (Step.of_below (gr_below _ w5) (by simp; omega)).put 2 _
 have hne : w.heap.size ≠ g := by omega
 have KR2 := KR.far (p := ⟨g, 2, none⟩) hne (.bool true)
 have f0 := KR2.free 0
 have f1 := KR2.free 1
 have f3 := KR2.free 2
 obtain ⟨r0, r1, r2⟩ := KR2.three
 obtain ⟨z0, z1, z2⟩ := (((KR2.put 0 (.string ⟨#[]⟩)).put 1 (.string ⟨#[]⟩)).put 2 (.slice none 0 0)).three
 have HR := Lib.hid hRB
 clear hV KR KR2 c0 c1 c2 hRB
 go_wp2_with fail
 exact bodyPost_ret (v := .agg #[.string ⟨#[]⟩, .string ⟨#[]⟩, .slice none 0 0]) (by simp [results, Tryz.results236, go_sem, z0, z1, z2]) rfl (ans_put hg (below_new0 w _) (by simp) st (fun h => by cases h) (fun _ => HR.out))
theorem primR_num (g : Nat) (t : ByteArray) (r0 : List ByteArray) (w : World) (hd1 : Form.dig1 t = true) (hs : RS N g w (t :: r0)) :
  Calls Tryz.prog 236 #[.pointer (some ⟨g, 0, none⟩)] w (Ans N g w ⟨.num t, r0, false⟩) := by
 have hg := hs.lt
 obtain ⟨m1, m2, m3, m4⟩ := dig_yes hd1
 have hne40 : (t.toList == [40]) = false := by
  rw [← Bool.not_eq_true]
  intro h
  have h := eq_of_beq h
  have : t = ⟨#[40]⟩ := by
   apply ByteArray.ext
   apply Array.toList_inj.1
   rw [ByteArray.toList_eq] at h
   exact h
  subst this
  exact absurd (show (48 : Nat) ≤ 40 from m3) (by omega)
 obtain ⟨b, o, n, c, i, hin, hn, hts, hb, c0, c1, c2, -, ct, -⟩ := hs.cons
 have gg : decide ((n : Int) ≤ (i : Int)) = false := by simpa using hin
 have hV := fun w5 => hs.below ((below_new0 w (.cells #[.string ⟨#[]⟩, .string ⟨#[]⟩, .slice none 0 0] 108)).trans ((gr_below (w.alloc (.cells #[.string ⟨#[]⟩, .string ⟨#[]⟩, .slice none 0 0] 108)) w5).mono (by simp)))
 clear hs hd1
 go_enter Tryz.func236, Tryz.ntmps236
 go_wp2_with fail
 refine wp_region_gr (by kernel_rfl) (by kernel_rfl) ?_
 repeat (go_big_quiet_step (fail))
 refine wpQuiet_nil ?_
 intro _ hw'; obtain ⟨w5, hw''⟩ := hw'; subst hw''
 have hT := takeRef_any g t r0 _ (hV w5)
 have KR := (Known.made w 108 #[.string ⟨#[]⟩, .string ⟨#[]⟩, .slice none 0 0]).on (gr_below _ w5)
 have st0 := (Step.of_below (g := g) (gr_below (w.alloc (.cells #[.string ⟨#[]⟩, .string ⟨#[]⟩, .slice none 0 0] 108)) w5) (by simp; omega))
 clear hV c0 c1 c2 ct
 go_wp2_with fail
 refine hT.mono ?_
 rintro e w3 ⟨rfl, st3, rs3⟩
 have KR2 := KR.step st3 (by omega)
 have f0 := KR2.free 0
 have f1 := KR2.free 1
 have f3 := KR2.free 2
 obtain ⟨r0, r1, r2⟩ := KR2.three
 obtain ⟨z0, z1, z2⟩ := (((KR2.put 0 (.string ⟨#[]⟩)).put 1 (.string t)).put 2 (.slice none 0 0)).three
 have st := st0.trans st3
 clear hT KR KR2 st0 st3
 go_wp2_with fail
 exact bodyPost_ret (v := .agg #[.string ⟨#[]⟩, .string t, .slice none 0 0]) (by simp [results, Tryz.results236, go_sem, z0, z1, z2]) rfl (ans_put hg (below_new0 w _) (by simp) st (fun _ => ⟨⟨rfl, rfl, rfl, rfl⟩, rs3⟩) (fun h => by cases h))
theorem str_ne40 {t : ByteArray} (h : ¬ t = ⟨#[40]⟩) : (t.toList == [40]) = false := by
 rw [← Bool.not_eq_true]
 intro h'
 have h' := eq_of_beq h'
 apply h
 apply ByteArray.ext
 apply Array.toList_inj.1
 rw [ByteArray.toList_eq] at h'
 exact h'
theorem primR_other (g : Nat) (t : ByteArray) (r0 : List ByteArray) (w : World) (hd1 : Form.dig1 t = false) (hno : ¬ t = ⟨#[40]⟩) (hs : RS N g w (t :: r0)) :
  Calls Tryz.prog 236 #[.pointer (some ⟨g, 0, none⟩)] w (Ans N g w ⟨.num ⟨#[]⟩, t :: r0, true⟩) := by
 have hg := hs.lt
 have hne40 := str_ne40 hno
 have hcase : (∃ h : 0 < t.size, t[0].toNat < 48) ∨ (∃ h : 0 < t.size, 48 ≤ t[0].toNat ∧ 57 < t[0].toNat) := by
  obtain ⟨b, o, n, c, i, hin, hn, hts, -⟩ := hs.cons
  rcases dig_no hd1 with h | ⟨-, h⟩ | ⟨-, h⟩
  ·have h2 : t.data.toList.length = t.size := by simp
   rw [ByteArray.toList_eq] at h
   rw [List.isEmpty_iff.1 h] at h2
   simp at h2
   omega
  ·exact .inl h
  ·exact .inr h
 obtain ⟨b, o, n, c, i, hin, hn, hts, hb, c0, c1, c2, -, ct, -⟩ := hs.cons
 have gg : decide ((n : Int) ≤ (i : Int)) = false := by simpa using hin
 have hV := fun w5 => hs.below ((below_new0 w (.cells #[.string ⟨#[]⟩, .string ⟨#[]⟩, .slice none 0 0] 108)).trans ((gr_below (w.alloc (.cells #[.string ⟨#[]⟩, .string ⟨#[]⟩, .slice none 0 0] 108)) w5).mono (by simp)))
 clear hs hd1 hno
 rcases hcase with ⟨m2, m3⟩ | ⟨m2, m3, m4⟩
 all_goals
  go_enter Tryz.func236, Tryz.ntmps236
  go_wp2_with fail
  refine wp_region_gr (by kernel_rfl) (by kernel_rfl) ?_
  repeat (go_big_quiet_step (fail))
  refine wpQuiet_nil ?_
  intro _ hw'; obtain ⟨w5, hw''⟩ := hw'; subst hw''
  have hT := takeRef_any g t r0 _ (hV w5)
  have KR := (Known.made w 108 #[.string ⟨#[]⟩, .string ⟨#[]⟩, .slice none 0 0]).on (gr_below _ w5)
  have st0 := (Step.of_below (g := g) (gr_below (w.alloc (.cells #[.string ⟨#[]⟩, .string ⟨#[]⟩, .slice none 0 0] 108)) w5) (by simp; omega))
  clear hV c0 c1 c2 ct
  go_wp2_with fail
  refine hT.mono ?_
  rintro e w3 ⟨rfl, st3, rs3⟩
  have hne : w.heap.size ≠ g := by omega
  have KR1 := KR.step st3 hne
  have KR2 := KR1.far (p := ⟨g, 2, none⟩) hne (.bool true)
  obtain ⟨d2, f2, hRB⟩ := rs3.bad
  have f0 := KR2.free 0
  have f1 := KR2.free 1
  have f3 := KR2.free 2
  obtain ⟨r0, r1, r2⟩ := KR2.three
  obtain ⟨z0, z1, z2⟩ := (((KR2.put 0 (.string ⟨#[]⟩)).put 1 (.string t)).put 2 (.slice none 0 0)).three
  have st := (st0.trans st3).put 2 (.bool true)
  have HR := Lib.hid hRB
  clear hT KR KR1 KR2 st0 st3 hRB rs3
  go_wp2_with fail
  exact bodyPost_ret (v := .agg #[.string ⟨#[]⟩, .string t, .slice none 0 0]) (by simp [results, Tryz.results236, go_sem, z0, z1, z2]) rfl (ans_put hg (below_new0 w _) (by simp) st (fun h => by cases h) (fun _ => HR.out))
theorem RS.is_bad0 {g : Nat} {w : World} {rest : List ByteArray} {b : Bool} (hg : b = false → RS N g w rest) (hb : b = true → RB g w) : w.frozen? ⟨g, 2, none⟩ = false ∧ (∃ v, w.cell? ⟨g, 2, none⟩ = some (.bool v)) ∧ RB g (w.setCell ⟨g, 2, none⟩ (.bool true)) := by
 cases b with
 | false => obtain ⟨a, b, c⟩ := (hg rfl).bad; exact ⟨b, ⟨_, a⟩, c⟩
 | true => have h := hb rfl; exact ⟨h.again.1, ⟨_, h.bad⟩, h.again.2⟩
theorem primR_open (f g : Nat) (r0 : List ByteArray) (x : Form.Res) (w : World) (hO : Lev N f 0) (hx : Form.P f (.lv 0) r0 false = some x) (hl : r0.length ≤ 1000) (hs : RS N g w (⟨#[40]⟩ :: r0)) :
  Calls Tryz.prog 236 #[.pointer (some ⟨g, 0, none⟩)] w (Ans N g w (Form.close x)) := by
 have hg := hs.lt
 obtain ⟨b, o, n, c, i, hin, hn, hts, hb, c0, c1, c2, -, ct, -⟩ := hs.cons
 have gg : decide ((n : Int) ≤ (i : Int)) = false := by simpa using hin
 have hV := fun w5 => hs.below ((below_new0 w (.cells #[.string ⟨#[]⟩, .string ⟨#[]⟩, .slice none 0 0] 108)).trans ((gr_below (w.alloc (.cells #[.string ⟨#[]⟩, .string ⟨#[]⟩, .slice none 0 0] 108)) w5).mono (by simp)))
 obtain ⟨bb, hbb⟩ : ∃ bb, bb = (!x.bad && (Form.take Form.cls x.rest).isSome) := ⟨_, rfl⟩
 have Hb := Lib.hid hbb
 have hO2 : ∀ w0, RS N g w0 r0 → Calls Tryz.prog 142 #[.pointer (some ⟨g, 0, none⟩), .int .i64 0] w0 (Ans N g w0 x) := fun w0 => hO g r0 x w0 hx hl
 clear hs hbb hO hx
 go_enter Tryz.func236, Tryz.ntmps236
 go_wp2_with fail
 refine wp_region_gr (by kernel_rfl) (by kernel_rfl) ?_
 repeat (go_big_quiet_step (fail))
 refine wpQuiet_nil ?_
 intro _ hw'; obtain ⟨w5, hw''⟩ := hw'; subst hw''
 have hT := takeRef_any g ⟨#[40]⟩ r0 _ (hV w5)
 have KR := (Known.made w 108 #[.string ⟨#[]⟩, .string ⟨#[]⟩, .slice none 0 0]).on (gr_below _ w5)
 have B0 := (below_new0 w (.cells #[.string ⟨#[]⟩, .string ⟨#[]⟩, .slice none 0 0] 108)).trans ((gr_below (w.alloc (.cells #[.string ⟨#[]⟩, .string ⟨#[]⟩, .slice none 0 0] 108)) w5).mono (by simp))
 have st0 := Step.of_below (g := g) B0 (by omega)
 have z0 := KR.lt
 have hne : w.heap.size ≠ g := by omega
 clear hV c0 c1 c2 ct
 go_wp2_with fail
 refine hT.mono ?_
 rintro e w3 ⟨rfl, st3, rs3⟩
 have z3 := st3.below.size
 have KR3 := KR.step st3 hne
 clear hT KR B0
 have hC := hO2 w3 rs3
 go_wp2_with fail
 refine hC.mono ?_
 rintro e w1 ⟨o, s, p, m, rfl, st1, gd, bd⟩
 have z1 := st1.below.size
 have KR4 := KR3.step st1 hne
 have BX := below_new0 w1 (.cells #[.string o, .string s, .slice p m m] 108)
 have hI := is_after g (w1.heap.size + 1) Form.cls (w1.alloc (.cells #[.string o, .string s, .slice p m m] 108)) 9 x.rest x.bad (by simp) (by decide) (fun h => (gd h).2.below BX) (fun h => (bd h).below BX)
 rw [← Hb.out] at hI
 have KX := Known.made w1 108 #[.string o, .string s, .slice p m m]
 have KR5 := KR4.alloc (.cells #[.string o, .string s, .slice p m m] 108)
 clear hC hO2 KR3 KR4 rs3
 go_wp2_with fail
 refine hI.mono ?_
 rintro e w2 ⟨rfl, hb2⟩
 replace KX := KX.on hb2
 replace KR5 := KR5.on hb2
 have B12 := BX.trans (hb2.mono (by simp))
 have stA := ((st0.trans st3).trans st1).trans (Step.of_below B12 (by omega))
 have zw2 := B12.size
 have gd2 : x.bad = false → NL (fun i => w.heap.size < i) w2 x.T o s p m ∧ RS N g w2 x.rest := fun h => ⟨(gd h).1.on (fun i hi hl => ⟨by omega, B12.block i hl⟩), (gd h).2.below B12⟩
 have bd2 : x.bad = true → RB g w2 := fun h => (bd h).below B12
 have hbg : w1.heap.size ≠ g := by omega
 clear hI hb2 BX gd bd B12 st0 st3 st1
 obtain ⟨x0, x1, x2⟩ := KX.three
 cases bb with
 | false =>
   have hcl : (Form.close x).bad = true := by
    have := Hb.out
    unfold Form.close
    cases hxb : x.bad with
    | true => rfl
    | false =>
      rw [hxb] at this
      cases ht : Form.take Form.cls x.rest with
      | none => rfl
      | some y => rw [ht] at this; cases this
   obtain ⟨f2, ⟨v2, d2⟩, hRB⟩ := RS.is_bad0 (fun h => (gd2 h).2) bd2
   have HR := Lib.hid hRB
   have KR2 := KR5.far (p := ⟨g, 2, none⟩) hne (.bool true)
   have KX2 := KX.far (p := ⟨g, 2, none⟩) hbg (.bool true)
   have st := stA.put 2 (.bool true)
   obtain ⟨y0, y1, y2⟩ := KX2.three
   have f0 := KR2.free 0
   have f1 := KR2.free 1
   have f3 := KR2.free 2
   obtain ⟨r0, r1, r2⟩ := KR2.three
   obtain ⟨z0, z1, z2⟩ := (((KR2.put 0 (.string o)).put 1 (.string s)).put 2 (.slice p m m)).three
   have hA : Ans N g w (Form.close x) _ _ := ans_put2 (w1 := w2.setCell ⟨g, 2, none⟩ (.bool true)) (o := o) (s := s) (p := p) (n := m) hg st (fun h => by rw [hcl] at h; cases h) (fun _ => HR.out)
   clear KR5 KX KX2 KR2 hRB gd2 bd2
   go_wp2_with fail
   exact bodyPost_ret (v := .agg #[.string o, .string s, .slice p m m]) (by simp [results, Tryz.results236, go_sem, z0, z1, z2]) rfl hA
 | true =>
   have hxb : x.bad = false := by
    have := Hb.out
    cases hxb : x.bad with
    | false => rfl
    | true => rw [hxb] at this; cases this
   obtain ⟨q, ht⟩ : ∃ q, Form.take Form.cls x.rest = some q := by
    have := Hb.out
    cases ht : Form.take Form.cls x.rest with
    | some y => exact ⟨y, rfl⟩
    | none => rw [ht] at this; simp at this
   obtain ⟨cl, r2⟩ := q
   obtain ⟨-, -, hts⟩ := Form.take_len ht
   have hcl : Form.close x = ⟨.un ⟨#[40]⟩ x.T, r2, false⟩ := by
    unfold Form.close
    rw [hxb, ht]
    rfl
   obtain ⟨nx, rx⟩ := gd2 hxb
   rw [hts] at rx
   obtain ⟨b', o', n', c', i', hin', hn', -, hb', e0, e1, e2, f1, -, hRS⟩ := rx.cons
   have HR := Lib.hid hRS
   have KR2 := KR5.far (p := ⟨g, 1, none⟩) hne (.int .i64 ((i' : Int) + 1))
   have KX2 := KX.far (p := ⟨g, 1, none⟩) hbg (.int .i64 ((i' : Int) + 1))
   have st := stA.put 1 (.int .i64 ((i' : Int) + 1))
   obtain ⟨y0, y1, y2⟩ := KX2.three
   have f0 := KR2.free 0
   have f3 := KR2.free 1
   have f4 := KR2.free 2
   have zr := KR2.lt
   obtain ⟨r0, r1, r2'⟩ := KR2.three
   obtain ⟨z0, z1, z2⟩ := ((((KR2.put 0 (.string ⟨#[40]⟩)).put 1 (.string ⟨#[]⟩)).put 2 (.slice (some ⟨w2.heap.size, 0, none⟩) 1 1)).alloc (.cells #[.string o, .string s, .slice p m m] 108)).three
   have hA := ans_unz (z := w2.heap.size) (w4 := w2.setCell ⟨g, 1, none⟩ (.int .i64 ((i' : Int) + 1))) (y := x) (b := false) (rest := r2) (op := ⟨#[40]⟩) (by simp) hg zr st (fun _ => ⟨nx.put (fun i hi => by omega), HR.out⟩) (fun h => by cases h)
   rw [← hcl] at hA
   have zne : w.heap.size ≠ w2.heap.size := by omega
   have zlt : w.heap.size < w2.heap.size := by omega
   clear KR5 KX KX2 KR2 hRS gd2 bd2 nx rx hts ht hcl
   go_wp2_with fail
   exact bodyPost_ret (v := .agg #[.string ⟨#[40]⟩, .string ⟨#[]⟩, .slice (some ⟨w2.heap.size, 0, none⟩) 1 1]) (by simp [results, Tryz.results236, go_sem, z0, z1, z2]) rfl hA
theorem primR_step (f : Nat) (hO : Lev N f 0) : RdR N 236 (f + 1) 8 := by
 intro g ts r w hP hl hs
 rw [Form.P, if_neg (by decide), if_neg (by decide), if_neg (by decide), if_pos rfl] at hP
 cases ts with
 | nil =>
   have : r = ⟨.num ⟨#[]⟩, [], true⟩ := by simpa [Form.prim, Form.take] using hP.symm
   rw [this]
   exact primR_nil g w hs
 | cons t r0 =>
   cases hd1 : Form.dig1 t with
   | true =>
     rw [if_pos (by simpa using hd1)] at hP
     have : r = ⟨.num t, r0, false⟩ := by simpa using hP.symm
     rw [this]
     exact primR_num g t r0 w hd1 hs
   | false =>
     rw [if_neg (by simpa using hd1)] at hP
     by_cases ht : t = ⟨#[40]⟩
     ·subst ht
      have e : Form.prim (⟨#[40]⟩ :: r0) false = some r0 := by
       have : Form.mem ⟨#[40]⟩ Form.opn = true := by decide
       simp [Form.prim, Form.take, this]
      rw [e] at hP
      simp only at hP
      cases hx : Form.P f (.lv 0) r0 false with
      | none => rw [hx] at hP; cases hP
      | some x =>
        rw [hx] at hP
        simp only [Option.some.injEq] at hP
        subst hP
        exact primR_open f g r0 x w hO hx (by simp at hl; omega) hs
     ·have e : Form.prim (t :: r0) false = none := by
       have : Form.mem t Form.opn = false := by
        simp only [Form.mem, Form.opn, List.any_cons, List.any_nil, Bool.or_false, decide_eq_false_iff_not]
        exact fun h => ht h.symm
       simp [Form.prim, Form.take, this]
      rw [e] at hP
      have : r = ⟨.num ⟨#[]⟩, t :: r0, true⟩ := by simpa using hP.symm
      rw [this]
      exact primR_other g t r0 w hd1 ht hs
variable {N : Nat}
theorem unR_sign (f g : Nat) (ts r1 : List ByteArray) (op : ByteArray) (x : Form.Res) (w : World) (hU : RdR N 198 f 6) (ht : Form.take Form.unOps ts = some (op, r1)) (hx : Form.P f (.lv 6) r1 false = some x) (hl : ts.length ≤ 1000) (hs : RS N g w ts) :
  Calls Tryz.prog 198 #[.pointer (some ⟨g, 0, none⟩)] w (Ans N g w ⟨.un op x.T, x.rest, x.bad⟩) := by
 have hg := hs.lt
 obtain ⟨hrl, -, hts⟩ := Form.take_len ht
 have B0 := below_new0 w (.cells #[.string ⟨#[]⟩, .string ⟨#[]⟩, .slice none 0 0] 108)
 have hI := is_at g (w.heap.size + 1) Form.unOps ts (w.alloc (.cells #[.string ⟨#[]⟩, .string ⟨#[]⟩, .slice none 0 0] 108)) 9 (by simp) (by decide) (hs.below B0)
 rw [ht] at hI
 have hO2 : ∀ w0, RS N g w0 r1 → Calls Tryz.prog 198 #[.pointer (some ⟨g, 0, none⟩)] w0 (Ans N g w0 x) := fun w0 => hU g r1 x w0 hx (by omega)
 subst hts
 clear ht hx hU
 go_enter Tryz.func198, Tryz.ntmps198
 go_wp2_with fail
 refine hI.mono ?_
 rintro e w2 ⟨rfl, hb2⟩
 have KR := (Known.made w 108 #[.string ⟨#[]⟩, .string ⟨#[]⟩, .slice none 0 0]).on hb2
 have B12 := B0.trans (hb2.mono (by simp))
 have z2 := KR.lt
 have hne : w.heap.size ≠ g := by omega
 have hT := takeRef_any g op r1 w2 (hs.below B12)
 clear hI hs hb2
 go_wp2_with fail
 refine hT.mono ?_
 rintro e w3 ⟨rfl, st3, rs3⟩
 have KR3 := KR.step st3 hne
 have hC := hO2 w3 rs3
 have z3 := st3.below.size
 clear hT KR hO2 rs3
 go_wp2_with fail
 refine hC.mono ?_
 rintro e w4 ⟨o, s, p, m, rfl, st4, gd, bd⟩
 have KR4 := KR3.step st4 hne
 have z4 := st4.below.size
 have f0 := KR4.free 0
 have f1 := KR4.free 1
 have f2 := KR4.free 2
 have zr := KR4.lt
 have zne : w.heap.size ≠ w4.heap.size := by omega
 obtain ⟨r0, r1, r2⟩ := KR4.three
 obtain ⟨c0, c1, c2⟩ := ((((KR4.put 0 (.string op)).put 1 (.string ⟨#[]⟩)).put 2 (.slice (some ⟨w4.heap.size, 0, none⟩) 1 1)).alloc (.cells #[.string o, .string s, .slice p m m] 108)).three
 have hA := ans_un (op := op) hg zr (((Step.of_below B12 (by omega)).trans st3).trans st4) (fun h => ⟨(gd h).1.mono (fun i hi => by omega), (gd h).2⟩) bd
 clear hC KR3 KR4 gd bd st3 st4 B12 B0
 go_wp2_with fail
 exact bodyPost_ret (v := .agg #[.string op, .string ⟨#[]⟩, .slice (some ⟨w4.heap.size, 0, none⟩) 1 1]) (by simp [results, Tryz.results198, go_sem, c0, c1, c2]) rfl hA
set_option maxRecDepth 20000 in
theorem unR_pow (f g : Nat) (ts : List ByteArray) (x r : Form.Res) (w : World) (hU : RdR N 198 f 6) (hP8 : RdR N 236 f 8) (ht : Form.take Form.unOps ts = none) (hx : Form.P f (.lv 8) ts false = some x)
  (hP : (match Form.take Form.hat x.rest with
     | none => some x
     | some (_, r) =>
       match Form.P f (.lv 6) r x.bad with
       | none => none
       | some y => some ⟨.bin ⟨#[94]⟩ x.T y.T, y.rest, y.bad⟩) = some r) (hl : ts.length ≤ 1000) (hs : RS N g w ts) :
  Calls Tryz.prog 198 #[.pointer (some ⟨g, 0, none⟩)] w (Ans N g w r) := by
 have hg := hs.lt
 have hle := Form.P_len _ _ _ _ _ hx
 have B0 := below_new0 w (.cells #[.string ⟨#[]⟩, .string ⟨#[]⟩, .slice none 0 0] 108)
 have hI := is_at g (w.heap.size + 1) Form.unOps ts (w.alloc (.cells #[.string ⟨#[]⟩, .string ⟨#[]⟩, .slice none 0 0] 108)) 9 (by simp) (by decide) (hs.below B0)
 rw [ht] at hI
 have hC := fun w0 => hP8 g ts x w0 hx hl
 obtain ⟨bb, hbb⟩ : ∃ bb, bb = (!x.bad && (Form.take Form.hat x.rest).isSome) := ⟨_, rfl⟩
 have Hb := Lib.hid hbb
 clear hbb ht hx hP8
 go_enter Tryz.func198, Tryz.ntmps198
 go_wp2_with fail
 refine hI.mono ?_
 rintro e w9 ⟨rfl, hb9⟩
 have KR9 := (Known.made w 108 #[.string ⟨#[]⟩, .string ⟨#[]⟩, .slice none 0 0]).on hb9
 have B9 := B0.trans (hb9.mono (by simp))
 have z9 := KR9.lt
 have hne : w.heap.size ≠ g := by omega
 replace hC := hC w9 (hs.below B9)
 clear hI hs hb9 B0
 go_wp2_with fail
 refine hC.mono ?_
 rintro e w1 ⟨o, s, p, m, rfl, st, gd, bd⟩
 have zw := st.below.size
 have KR := KR9.step st hne
 have BX := below_new0 w1 (.cells #[.string o, .string s, .slice p m m] 108)
 have hI := is_after g (w1.heap.size + 1) Form.hat (w1.alloc (.cells #[.string o, .string s, .slice p m m] 108)) 9 x.rest x.bad (by simp) (by decide) (fun h => (gd h).2.below BX) (fun h => (bd h).below BX)
 rw [← Hb.out] at hI
 have KX := Known.made w1 108 #[.string o, .string s, .slice p m m]
 have KR1 := KR.alloc (.cells #[.string o, .string s, .slice p m m] 108)
 clear hC KR KR9
 go_wp2_with fail
 refine hI.mono ?_
 rintro e w2 ⟨rfl, hb2⟩
 replace KX := KX.on hb2
 replace KR1 := KR1.on hb2
 have B12 := BX.trans (hb2.mono (by simp))
 have st2 := ((Step.of_below B9 (by omega)).trans st).trans (Step.of_below B12 (by omega))
 have zw2 := B12.size
 have gd2 : x.bad = false → NL (fun i => w.heap.size < i) w2 x.T o s p m ∧ RS N g w2 x.rest := fun h => ⟨(gd h).1.on (fun i hi hl => ⟨by omega, B12.block i hl⟩), (gd h).2.below B12⟩
 have bd2 : x.bad = true → RB g w2 := fun h => (bd h).below B12
 have hbg : w1.heap.size ≠ g := by omega
 clear hI hb2 BX gd bd st B9
 cases bb with
 | false =>
   have gd3 : r.bad = false → NL (fun i => w.heap.size < i) w2 r.T o s p m ∧ RS N g w2 r.rest := by
    intro h
    have hxb : x.bad = false := by
     cases hxb : x.bad with
     | false => rfl
     | true =>
       rw [hxb] at hP
       cases ht : Form.take Form.hat x.rest with
       | none => rw [ht] at hP; simp only [Option.some.injEq] at hP; rw [← hP, hxb] at h; cases h
       | some y =>
         rw [ht] at hP
         simp only at hP
         cases hy : Form.P f (.lv 6) y.2 true with
         | none => rw [hy] at hP; cases hP
         | some z => rw [hy] at hP; simp only [Option.some.injEq] at hP; rw [← hP] at h; rw [Form.P_bad _ _ _ _ hy] at h; cases h
    have ht : Form.take Form.hat x.rest = none := by
     have := Hb.out
     rw [hxb] at this
     cases ht : Form.take Form.hat x.rest with
     | none => rfl
     | some y => rw [ht] at this; cases this
    rw [ht] at hP
    simp only [Option.some.injEq] at hP
    rw [← hP]
    exact gd2 hxb
   have bd3 : r.bad = true → RB g w2 := by
    intro h
    have hxb : x.bad = true := by
     cases hxb : x.bad with
     | true => rfl
     | false =>
       have := Hb.out
       rw [hxb] at this
       cases ht : Form.take Form.hat x.rest with
       | none => rw [ht] at hP; simp only [Option.some.injEq] at hP; rw [← hP, hxb] at h; cases h
       | some y => rw [ht] at this; cases this
    exact bd2 hxb
   obtain ⟨x0, x1, x2⟩ := KX.three
   have f0 := KR1.free 0
   have f1 := KR1.free 1
   have f2 := KR1.free 2
   obtain ⟨r0, r1, r2⟩ := KR1.three
   obtain ⟨z0, z1, z2⟩ := (((KR1.put 0 (.string o)).put 1 (.string s)).put 2 (.slice p m m)).three
   clear KX KR1 hP gd2 bd2 B12 hU
   go_wp2_with fail
   exact bodyPost_ret (v := .agg #[.string o, .string s, .slice p m m]) (by simp [results, Tryz.results198, go_sem, z0, z1, z2]) rfl (ans_put2 hg st2 gd3 bd3)
 | true =>
   have hxb : x.bad = false := by
    have := Hb.out
    cases hxb : x.bad with
    | false => rfl
    | true => rw [hxb] at this; cases this
   obtain ⟨q, ht⟩ : ∃ q, Form.take Form.hat x.rest = some q := by
    have := Hb.out
    cases ht : Form.take Form.hat x.rest with
    | some y => exact ⟨y, rfl⟩
    | none => rw [ht] at this; simp at this
   obtain ⟨op, r2⟩ := q
   rw [ht, hxb] at hP
   simp only at hP
   obtain ⟨hrl, -, hts⟩ := Form.take_len ht
   cases hy : Form.P f (.lv 6) r2 false with
   | none => rw [hy] at hP; cases hP
   | some y =>
     rw [hy] at hP
     simp only [Option.some.injEq] at hP
     have hO2 : ∀ w0, RS N g w0 r2 → Calls Tryz.prog 198 #[.pointer (some ⟨g, 0, none⟩)] w0 (Ans N g w0 y) := fun w0 => hU g r2 y w0 hy (by omega)
     obtain ⟨nx, rx⟩ := gd2 hxb
     rw [hts] at rx
     obtain ⟨b', o', n', c', i', hin', hn', -, hb', e0, e1, e2, f1, -, hRS⟩ := rx.cons
     have HR := Lib.hid hRS
     have KX3 := (KX.far (p := ⟨g, 1, none⟩) hbg (.int .i64 ((i' : Int) + 1))).on (Below.refl _ _).drew
     have KR3 := KR1.far (p := ⟨g, 1, none⟩) hne (.int .i64 ((i' : Int) + 1))
     obtain ⟨x0, x1, x2⟩ := KX3.three
     have rs4 := hRS.keep (Below.refl (g + 1) _).drew
     have st3 := st2.put 1 (.int .i64 ((i' : Int) + 1))
     have nx3 : NL (fun i => w.heap.size < i) (w2.setCell ⟨g, 1, none⟩ (.int .i64 ((i' : Int) + 1))) x.T o s p m := nx.put (fun i hi => by omega)
     have KX4 := KX.far (p := ⟨g, 1, none⟩) hbg (.int .i64 ((i' : Int) + 1))
     have hkeep : ∀ w4, Step g (w2.setCell ⟨g, 1, none⟩ (.int .i64 ((i' : Int) + 1))).drew w4 → Known w4 w1.heap.size 108 #[.string o, .string s, .slice p m m] ∧ Known w4 w.heap.size 108 #[.string ⟨#[]⟩, .string ⟨#[]⟩, .slice none 0 0] ∧ Step g w w4 ∧ NL (fun i => w.heap.size < i) w4 x.T o s p m := by
      intro w4 st4
      have st9 := ((Step.refl g (w2.setCell ⟨g, 1, none⟩ (.int .i64 ((i' : Int) + 1)))).drew).trans st4
      exact ⟨KX4.step st9 hbg, KR3.step st9 hne, st3.trans st9, nx3.step st9 (fun i hi => by omega)⟩
     have z4 : (w2.setCell ⟨g, 1, none⟩ (.int .i64 ((i' : Int) + 1))).drew.heap.size = w2.heap.size := by simp
     have zlx : w1.heap.size < w2.heap.size := KX.lt
     clear KX KR1 nx st2 KX3 KR3 hRS hU gd2 bd2 B12 rx hy nx3 st3 KX4
     go_upto_region 7 with fail
     go_region_with (go_at_call 198; (with_reducible refine (hO2 _ rs4).mono ?_); rintro e w4 ⟨o2, s2, p2, m2, rfl, st4, gd4, bd4⟩; obtain ⟨K4, KR4, st5, ly4⟩ := hkeep w4 st4; obtain ⟨y0, y1, y2⟩ := K4.three; obtain ⟨v0, v1, v2⟩ := KR4.three; have q0 := KR4.free 0; have q1 := KR4.free 1; have q2 := KR4.free 2; have z5 := st4.below.size; have zlt : w1.heap.size < w4.heap.size := K4.lt; have zlr : w.heap.size < w4.heap.size := KR4.lt; have zne : w.heap.size ≠ w4.heap.size := Nat.ne_of_lt zlr)
     all_goals
      obtain ⟨c0, c1, c2⟩ := ((((KR4.put 0 (.string ⟨#[94]⟩)).put 1 (.string ⟨#[]⟩)).put 2 (.slice (some ⟨w4.heap.size, 0, none⟩) 2 2)).alloc (.cells #[.string o, .string s, .slice p m m, .string o2, .string s2, .slice p2 m2 m2] 108)).three
      have hA := ans_bin (op := ⟨#[94]⟩) hg zlr st5 ly4 (fun h => ⟨(gd4 h).1.mono (fun i hi => by omega), (gd4 h).2⟩) bd4
      clear y0 y1 y2 v0 v1 v2 x0 x1 x2 q0 q1 q2 hO2 hkeep KR4 K4 ly4 gd4 bd4
      rw [hP] at hA
      go_wp2_with fail
      exact bodyPost_ret (v := .agg #[.string ⟨#[94]⟩, .string ⟨#[]⟩, .slice (some ⟨w4.heap.size, 0, none⟩) 2 2]) (by simp [results, Tryz.results198, go_sem, c0, c1, c2]) rfl hA
theorem unR_step (f : Nat) (hU : RdR N 198 f 6) (hP8 : RdR N 236 f 8) : RdR N 198 (f + 1) 6 := by
 intro g ts r w hP hl hs
 rw [Form.P, if_neg (by decide), if_pos rfl] at hP
 cases ht : Form.take Form.unOps ts with
 | some q =>
   obtain ⟨op, r1⟩ := q
   rw [ht] at hP
   simp only at hP
   cases hx : Form.P f (.lv 6) r1 false with
   | none => rw [hx] at hP; cases hP
   | some x =>
     rw [hx] at hP
     simp only [Option.some.injEq] at hP
     rw [← hP]
     exact unR_sign f g ts r1 op x w hU ht hx hl hs
 | none =>
   rw [ht] at hP
   simp only at hP
   cases f with
   | zero => simp [Form.P] at hP
   | succ f =>
     rw [Form.P, if_neg (by decide), if_neg (by decide), if_pos rfl] at hP
     cases hx : Form.P f (.lv 8) ts false with
     | none => rw [hx] at hP; cases hP
     | some x =>
       rw [hx] at hP
       simp only at hP
       refine unR_pow (f + 1) g ts x r w hU hP8 ht (Form.P_mono _ _ _ _ _ hx) ?_ hl hs
       cases ht2 : Form.take Form.hat x.rest with
       | none => rw [ht2] at hP; exact hP
       | some q =>
         rw [ht2] at hP
         simp only at hP ⊢
         cases hy : Form.P f (.lv 6) q.2 x.bad with
         | none => rw [hy] at hP; cases hP
         | some y =>
           rw [hy] at hP
           rw [Form.P_mono _ _ _ _ _ hy]
           exact hP
theorem lev_step (f n : Nat) (hn : n = 0 ∨ n = 1 ∨ n = 3 ∨ n = 4 ∨ n = 5) (hO : Lev N f (n + 1)) : Lev N (f + 1) n := by
 intro g ts r w hP hl hs
 rw [Form.P, if_neg (by omega), if_neg (by omega), if_neg (by omega), if_neg (by omega)] at hP
 cases h1 : Form.P f (.lv (n + 1)) ts false with
 | none => rw [h1] at hP; cases hP
 | some x =>
   rw [h1] at hP
   exact lev_walk f n g ts x r w hn hO h1 hP hl hs
theorem refLevels (f : Nat) : Lev N f 0 ∧ Lev N f 1 ∧ Lev N f 2 ∧ Lev N f 3 ∧ Lev N f 4 ∧ Lev N f 5 ∧ Lev N f 6 ∧ RdR N 197 f 2 ∧ RdR N 198 f 6 ∧ RdR N 236 f 8 := by
 induction f with
 | zero => refine ⟨?_, ?_, ?_, ?_, ?_, ?_, ?_, ?_, ?_, ?_⟩ <;> (intro g ts r w hP; simp [Form.P] at hP)
 | succ f ih =>
   obtain ⟨i0, i1, i2, i3, i4, i5, i6, j2, j6, j8⟩ := ih
   have k2 := cmp_step f i3
   have k6 := unR_step f j6 j8
   exact ⟨lev_step f 0 (by omega) i1, lev_step f 1 (by omega) i2, lev_cmp (f + 1) k2, lev_step f 3 (by omega) i4, lev_step f 4 (by omega) i5, lev_step f 5 (by omega) i6, lev_un (f + 1) k6, k2, k6, primR_step f i0⟩
end Go.Proofs.YtcklofamaooegaaGreatDoor
