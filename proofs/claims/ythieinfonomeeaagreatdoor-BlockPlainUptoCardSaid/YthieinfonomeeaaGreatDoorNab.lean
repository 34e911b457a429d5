/-
  Elements off the tape. Conditions: those typed in each theorem.
  Blocks off the tape. Conditions: those typed in each theorem.
-/
import Derived.Test.YthieinfonomeeaaGreatDoorLac
import Derived.Deep.CutBlock

namespace Go.Proofs.YthieinfonomeeaaGreatDoor
open Go.RowKit Doc
set_option linter.unusedVariables false
attribute [local go_sem ↓] Go.wp_at_zero Go.wp_at_succ

/-- short texts -/
def Doc.Ins.tiny : Ins → Prop
  | .nil => True
  | .cons _ t _ _ _ k r => t.size ≤ 99 ∧ k.tiny ∧ r.tiny
theorem Doc.Ins.tiny_app : ∀ {a b : Ins}, (a.app b).tiny ↔ a.tiny ∧ b.tiny
  | .nil, b => by simp [Ins.tiny]
  | .cons a t s n h k r, b => by
    have := Ins.tiny_app (a := r) (b := b)
    simp only [Ins.app, Ins.tiny, this]
    exact ⟨fun ⟨h1, h2, h3, h4⟩ => ⟨⟨h1, h2, h3⟩, h4⟩, fun ⟨⟨h1, h2, h3⟩, h4⟩ => ⟨h1, h2, h3, h4⟩⟩
theorem Doc.Ins.tiny_bulk : ∀ l : Ins, l.tiny → l.bulk ≤ 100 * l.size
  | .nil, _ => Nat.le_refl _
  | .cons a t s n h k r, hf => by
    have h1 := Ins.tiny_bulk k hf.2.1
    have h2 := Ins.tiny_bulk r hf.2.2
    have h3 := hf.1
    simp only [Ins.bulk, Ins.size]
    omega
/-- elements off the tape, d levels deep, at most S of them -/
def InlR (d S : Nat) : Prop := ∀ (g : Nat) (w : World), TP g w → Calls Tryz.prog 39 #[.pointer (some ⟨g, 0, none⟩), .int .i64 d] w fun e w' =>
  ∃ p c L, e = .returned (.slice p (Ins.len L) c) ∧ L.tiny ∧ L.size ≤ S ∧ TpS g w w' ∧ insS.sl (fun k => w.heap.size ≤ k) w' (.slice p (Ins.len L) c) L

def txtB : List ByteArray := [⟨#[97]⟩, ⟨#[98, 32, 60, 99, 62]⟩, ⟨#[38]⟩, ⟨#[34]⟩, ⟨#[32]⟩]
def notB : List ByteArray := [⟨#[]⟩, ⟨#[]⟩, ⟨#[110]⟩, ⟨#[109]⟩]
def lnkB : List ByteArray := [⟨#[]⟩, ⟨#[]⟩, ⟨#[115]⟩, ⟨#[97, 32, 98]⟩]

set_option maxRecDepth 20000 in
set_option maxHeartbeats 4000000 in
theorem inl_step (d S : Nat) (hd : d ≤ 9) (hS : S ≤ 1000) (hK : ∀ d', d = d' + 1 → InlR d' S) : InlR d (2 * (S + 1)) := by
  intro g w h
  have hg := h.lt
  have hT := TpS.refl h
  clear h
  obtain ⟨D, hD⟩ : ∃ D : Int, D = (d : Int) := ⟨_, rfl⟩
  rw [← hD]
  have hD0 : 0 ≤ D := by omega
  have hD9 : D ≤ 9 := by omega
  have HDD := Lib.hid hD
  clear hD
  go_enter Tryz.func39, Tryz.ntmps39
  go_wp2_with fail
  go_loopg [5, 6, 7] 3 (fun m s5 s6 s7 wr => ∃ (L : Ins) (i : Nat), L.len = i ∧ i ≤ 2 ∧ s6 = .int .i64 i ∧ 3 ≤ i + m ∧ L.tiny ∧ L.size ≤ i * (S + 1) ∧ TpS g w wr ∧ insS.own 56 (fun _ => False) w.heap.size wr s5 L)
  case atStart => exact ⟨.nil, 0, rfl, by omega, rfl, by omega, trivial, by simp [Ins.size], hT, Shp.own.nil⟩
  case round =>
    obtain ⟨L, i, hli, hi2, rfl, him, htiny, hsize, ts, hown⟩ := hrel
    have hwr := ts.size
    have tsr := TpS.refl ts.tp
    have hN := tNext g 3 wr wr (by omega) (by omega) tsr
    have HO := Lib.hid hown
    have HTS := Lib.hid ts
    have HTI := Lib.hid htiny
    have HSZ := Lib.hid hsize
    clear hown tsr ts htiny hsize
    go_wp2_with fail
    refine hN.mono ?_
    rintro e w1 ⟨r, rfl, hr, ts1, st1⟩
    clear hN
    have hw1 := ts1.size
    by_cases hir : i < r
    · have gi : decide ((i : Int) < (r : Int)) = true := by simp; omega
      have hN2 := tNext g 6 wr w1 (by omega) (by omega) ts1
      clear ts1 st1
      go_wp2_with fail
      refine hN2.mono ?_
      rintro e w2 ⟨q, rfl, hq, ts2, st2⟩
      clear hN2 st2
      have hw2 := ts2.size
      obtain ⟨X, hX⟩ : ∃ X, X = w2.heap.size := ⟨_, rfl⟩
      have hgX : g < X := by omega
      have hrX : wr.heap.size ≤ X := by omega
      have tsV := ts2.new (.cells #[.int .i64 (1 + (q : Int)), .string ⟨#[]⟩, .int .i64 0, .string ⟨#[]⟩, .string ⟨#[]⟩, .slice none 0 0] 56)
      have KX := Known.made w2 56 #[.int .i64 (1 + (q : Int)), .string ⟨#[]⟩, .int .i64 0, .string ⟨#[]⟩, .string ⟨#[]⟩, .slice none 0 0]
      go_upto_block 2 with fail
      obtain ⟨V, hV⟩ : ∃ V, V = w2.alloc (.cells #[.int .i64 (1 + (q : Int)), .string ⟨#[]⟩, .int .i64 0, .string ⟨#[]⟩, .string ⟨#[]⟩, .slice none 0 0] 56) := ⟨_, rfl⟩
      rw [← hV] at tsV KX ⊢
      rw [← hX] at KX ⊢
      have hVs := tsV.size
      have hXl := KX.lt
      clear hV hX ts2 hw2
      go_cut [7] from 8 to 66 (fun s7 wc => s7 = .pointer (some ⟨X, 0, none⟩) ∧ TpS g wr wc ∧ ∃ (t : ByteArray) (s : Int) (n h : ByteArray), t.size ≤ 99 ∧ Known wc X 56 #[.int .i64 (1 + (q : Int)), .string t, .int .i64 s, .string n, .string h, .slice none 0 0])
      case first =>
        have f1 := KX.free 1
        rcases (show q = 0 ∨ q = 4 ∨ q = 3 ∨ (q ≠ 0 ∧ q ≠ 4 ∧ q ≠ 3) by omega) with rfl | rfl | rfl | ⟨q0, q4, q3⟩
        · have hO := tOfNew g txtB wr V 9 _ rfl (by decide) (by decide) (by decide) tsV
          go_wp2_with fail
          refine hO.mono ?_
          rintro e w3 ⟨t, rfl, ht, ts3, st3⟩
          have K3 := KX.tstep st3 (by omega)
          have f1 := K3.free 1
          have c1 := K3.cell 1
          have hXl := K3.lt
          clear hO
          go_wp2_with fail
          go_meet
          case rel => exact ⟨rfl, ts3.put hrX hgX _ _, t, 0, _, _, ht, K3.put 1 _⟩
        · have hO := tOfNew g notB wr V 9 _ rfl (by decide) (by decide) (by decide) tsV
          go_wp2_with fail
          refine hO.mono ?_
          rintro e w3 ⟨t, rfl, ht, ts3, st3⟩
          have K3 := KX.tstep st3 (by omega)
          have f1 := K3.free 1
          have c1 := K3.cell 1
          have hXl := K3.lt
          clear hO
          go_wp2_with fail
          go_meet
          case rel => exact ⟨rfl, ts3.put hrX hgX _ _, t, 0, _, _, ht, K3.put 1 _⟩
        · have hO := tTitle g wr V tsV
          go_wp2_with fail
          refine hO.mono ?_
          rintro e w3 ⟨s, n, rfl, hn, ts3, st3⟩
          have K3 := KX.tstep st3 (by omega)
          have hO2 := tOfNew g lnkB wr w3 9 _ rfl (by decide) (by decide) (by decide) ts3
          clear hO
          go_wp2_with fail
          refine hO2.mono ?_
          rintro e w4 ⟨h, rfl, hh, ts4, st4⟩
          have K4 := K3.tstep st4 (by omega)
          have f2 := K4.free 2
          have f3 := K4.free 3
          have f4 := K4.free 4
          have hXl := K4.lt
          have c2 := K4.cell 2
          have c3 := K4.cell 3
          have c4 := K4.cell 4
          have K5 := ((K4.put 2 (.int .i64 s)).put 3 (.string n)).put 4 (.string h)
          have ts5 := ((ts4.put hrX hgX 2 (.int .i64 s)).put hrX hgX 3 (.string n)).put hrX hgX 4 (.string h)
          have hO3 := tNext g 5 wr _ (by omega) (by omega) ts5
          clear hO2 ts5
          go_wp2_with fail
          refine hO3.mono ?_
          rintro e w6 ⟨z, rfl, hz, ts6, st6⟩
          have K6 := K5.tstep st6 (by omega)
          have f2 := K6.free 2
          have f3 := K6.free 3
          have hXl := K6.lt
          have c2 := K6.cell 2
          have c3 := K6.cell 3
          clear hO3
          by_cases hz0 : z = 0
          · subst hz0
            go_wp2_with fail
            go_meet
            case rel => exact ⟨rfl, (ts6.put hrX hgX _ _).put hrX hgX _ _, ⟨#[]⟩, 0, ⟨#[]⟩, h, by decide, (K6.put 2 _).put 3 _⟩
          · have gz : ((z : Int) == 0) = false := by simp; omega
            go_wp2_with fail
            go_meet
            case rel => exact ⟨rfl, ts6, ⟨#[]⟩, s, n, h, by decide, K6⟩
        · have g1 : ((1 + (q : Int)) == 1) = false := by simp; omega
          have g2 : ((1 + (q : Int)) == 5) = false := by simp; omega
          have g3 : ((1 + (q : Int)) == 4) = false := by simp; omega
          go_wp2_with fail
          go_meet
          case rel => exact ⟨rfl, tsV, ⟨#[]⟩, 0, ⟨#[]⟩, ⟨#[]⟩, by decide, KX⟩
      case rest =>
        obtain ⟨rfl, ts3, t, s, n, h, ht, K3⟩ := hcut
        have hXl := K3.lt
        have c0 := K3.cell 0
        obtain ⟨a, ha⟩ : ∃ a : Int, a = 1 + (q : Int) := ⟨_, rfl⟩
        rw [← ha] at K3
        by_cases hk : 0 < d ∧ a ≠ 1 ∧ a ≠ 6
        · obtain ⟨d', hd'⟩ : ∃ d', d = d' + 1 := ⟨d - 1, by omega⟩
          have q1 : q ≠ 0 := by omega
          have q6 : q ≠ 5 := by omega
          subst ha
          have gd : decide (0 < D) = true := by have := HDD.out; rw [decide_eq_true_eq]; omega
          have g1 : ((1 + (q : Int)) == 1) = false := by simp; omega
          have g6 : ((1 + (q : Int)) == 6) = false := by simp; omega
          have n1 : ((1 + (q : Int)) != 1) = true := by simp; omega
          have n6 : ((1 + (q : Int)) != 6) = true := by simp; omega
          have hd1 : D - 1 = (d' : Int) := by have := HDD.out; omega
          have hC := hK d' hd' g wc ts3.tp
          have HD := Lib.hid hd'
          clear hd'
          have c0 := K3.cell 0
          go_wp2_with fail
          refine hC.mono ?_
          rintro e w4 ⟨kp, kc, k, rfl, hkt, hks0, ts4, hsl⟩
          have K4 := K3.tstep ts4.st (by omega)
          have f5 := K4.free 5
          have hXl4 := K4.lt
          have c5 := K4.cell 5
          have K5 := K4.put 5 (.slice kp k.len kc)
          have ts5 := (ts3.trans ts4).put hrX hgX 5 (.slice kp k.len kc)
          have hs4 := ts4.size
          have hsl5 := insS.sl_on hsl (Kept.put (fun j hj => by omega : ∀ j, wc.heap.size ≤ j → j ≠ X) 5 (.slice kp k.len kc))
          have hsz5 : (w4.setCell ⟨X, 5, none⟩ (.slice kp k.len kc)).heap.size = w4.heap.size := by simp
          have hw3 := ts3.size
          clear hC c0 c5 hsl
          obtain ⟨x0, x1, x2, x3, x4, x5⟩ := K4.six
          clear ts4 K4
          have hoA := (own_step HO.out ts5.st (by omega)).below (below_new0 (w4.setCell ⟨X, 5, none⟩ (.slice kp k.len kc)) (.cells #[.int .i64 (1 + (q : Int)), .string t, .int .i64 s, .string n, .string h, .slice kp k.len kc] 56))
          have hkk : insS.sl (Shp.kind (fun _ => False) w.heap.size u5) (w4.setCell ⟨X, 5, none⟩ (.slice kp k.len kc)) (.slice kp k.len kc) k := insS.sl_on hsl5 (Kept.mono fun j hj _ => ⟨.inr (by omega), fun e => by have := (HO.out.lt j e).2; omega⟩)
          have hsr := src_ins (a := 1 + (q : Int)) (t := t) (s := s) (n := n) (h := h) (ty := 56) hkk
          rw [hsz5] at hsr
          have hlL : insS.len L = i := hli
          have HOA := Lib.hid hoA
          have HSR := Lib.hid hsr
          have HLL := Lib.hid hlL
          have HTW := Lib.hid ((HTS.out.trans ts5).new (.cells #[.int .i64 (1 + (q : Int)), .string t, .int .i64 s, .string n, .string h, .slice kp k.len kc] 56))
          have hzw : w.heap.size ≤ ((w4.setCell ⟨X, 5, none⟩ (.slice kp k.len kc)).alloc (.cells #[.int .i64 (1 + (q : Int)), .string t, .int .i64 s, .string n, .string h, .slice kp k.len kc] 56)).heap.size := by have := (HTS.out.trans ts5).size; simp; omega
          have HK2 := Lib.hid hkk
          clear hoA hsr hlL hkk hli
          go_wp2_with (at_builtin; go_must (refine append_shp insS tyI _ rfl _ _ rfl HOA.out rfl HSR.out rfl (by rw [HLL.out]; show (i + 1) * 89 ≤ _; omega) hzw ?_); intro v' w5 hown' hgrow hbel hkd)
          go_roundg (2 - i)
          case measure => omega
          case rel =>
            have hl2 : L.len = i := HLL.out
            have hs := HSZ.out
            have hks : k.size ≤ S := hks0
            exact ⟨L.app (.cons (1 + (q : Int)) t s n h k .nil), i + 1, by rw [Ins.len_app, hl2]; rfl, by omega, by go_num, by omega, Ins.tiny_app.2 ⟨HTI.out, ht, hkt, trivial⟩, by rw [Ins.size_app, Nat.succ_mul]; simp only [Ins.size]; omega, HTW.out.grown hgrow (fun j hj => ⟨(HOA.out.lt j hj).1, by have := (HOA.out.lt j hj).1; omega⟩), hown'⟩
        · have hw3 := ts3.size
          have hnil : insS.sl (fun j => wc.heap.size ≤ j) wc (.slice none 0 0) Ins.nil := Sl.empty
          clear ha
          have hkk0 : d = 0 ∨ (0 < d ∧ a = 1) ∨ (0 < d ∧ a ≠ 1 ∧ a = 6) := by omega
          rcases hkk0 with h0 | ⟨h0, rfl⟩ | ⟨h0, h1, rfl⟩
          · have gd : decide (0 < D) = false := by have := HDD.out; rw [decide_eq_false_iff_not]; omega
            obtain ⟨x0, x1, x2, x3, x4, x5⟩ := K3.six
            clear c0
            have hoA := (own_step HO.out ts3.st (by omega)).below (below_new0 wc (.cells #[.int .i64 a, .string t, .int .i64 s, .string n, .string h, .slice none 0 0] 56))
            have hkk : insS.sl (Shp.kind (fun _ => False) w.heap.size u5) wc (.slice none 0 0) Ins.nil := insS.sl_on hnil (Kept.mono fun j hj _ => ⟨.inr (by omega), fun e => by have := (HO.out.lt j e).2; omega⟩)
            have hsr := src_ins (a := a) (t := t) (s := s) (n := n) (h := h) (ty := 56) hkk
            have hlL : insS.len L = i := hli
            have HOA := Lib.hid hoA
            have HSR := Lib.hid hsr
            have HLL := Lib.hid hlL
            have HTW := Lib.hid ((HTS.out.trans ts3).new (.cells #[.int .i64 a, .string t, .int .i64 s, .string n, .string h, .slice none 0 0] 56))
            have hzw : w.heap.size ≤ (wc.alloc (.cells #[.int .i64 a, .string t, .int .i64 s, .string n, .string h, .slice none 0 0] 56)).heap.size := by have := (HTS.out.trans ts3).size; simp; omega
            have HK2 := Lib.hid hkk
            clear hoA hsr hlL hkk hli
            go_wp2_with (at_builtin; go_must (refine append_shp insS tyI _ rfl _ _ rfl HOA.out rfl HSR.out rfl (by rw [HLL.out]; show (i + 1) * 89 ≤ _; omega) hzw ?_); intro v' w5 hown' hgrow hbel hkd)
            go_roundg (2 - i)
            case measure => omega
            case rel =>
              have hl2 : L.len = i := HLL.out
              have hs := HSZ.out
              have hks : Ins.nil.size ≤ S := Nat.zero_le _
              exact ⟨L.app (.cons a t s n h Ins.nil .nil), i + 1, by rw [Ins.len_app, hl2]; rfl, by omega, by go_num, by omega, Ins.tiny_app.2 ⟨HTI.out, ht, trivial, trivial⟩, by rw [Ins.size_app, Nat.succ_mul]; simp only [Ins.size]; omega, HTW.out.grown hgrow (fun j hj => ⟨(HOA.out.lt j hj).1, by have := (HOA.out.lt j hj).1; omega⟩), hown'⟩
          · have gd : decide (0 < D) = true := by have := HDD.out; rw [decide_eq_true_eq]; omega
            obtain ⟨x0, x1, x2, x3, x4, x5⟩ := K3.six
            clear c0
            have hoA := (own_step HO.out ts3.st (by omega)).below (below_new0 wc (.cells #[.int .i64 1, .string t, .int .i64 s, .string n, .string h, .slice none 0 0] 56))
            have hkk : insS.sl (Shp.kind (fun _ => False) w.heap.size u5) wc (.slice none 0 0) Ins.nil := insS.sl_on hnil (Kept.mono fun j hj _ => ⟨.inr (by omega), fun e => by have := (HO.out.lt j e).2; omega⟩)
            have hsr := src_ins (a := 1) (t := t) (s := s) (n := n) (h := h) (ty := 56) hkk
            have hlL : insS.len L = i := hli
            have HOA := Lib.hid hoA
            have HSR := Lib.hid hsr
            have HLL := Lib.hid hlL
            have HTW := Lib.hid ((HTS.out.trans ts3).new (.cells #[.int .i64 1, .string t, .int .i64 s, .string n, .string h, .slice none 0 0] 56))
            have hzw : w.heap.size ≤ (wc.alloc (.cells #[.int .i64 1, .string t, .int .i64 s, .string n, .string h, .slice none 0 0] 56)).heap.size := by have := (HTS.out.trans ts3).size; simp; omega
            have HK2 := Lib.hid hkk
            clear hoA hsr hlL hkk hli
            go_wp2_with (at_builtin; go_must (refine append_shp insS tyI _ rfl _ _ rfl HOA.out rfl HSR.out rfl (by rw [HLL.out]; show (i + 1) * 89 ≤ _; omega) hzw ?_); intro v' w5 hown' hgrow hbel hkd)
            go_roundg (2 - i)
            case measure => omega
            case rel =>
              have hl2 : L.len = i := HLL.out
              have hs := HSZ.out
              have hks : Ins.nil.size ≤ S := Nat.zero_le _
              exact ⟨L.app (.cons 1 t s n h Ins.nil .nil), i + 1, by rw [Ins.len_app, hl2]; rfl, by omega, by go_num, by omega, Ins.tiny_app.2 ⟨HTI.out, ht, trivial, trivial⟩, by rw [Ins.size_app, Nat.succ_mul]; simp only [Ins.size]; omega, HTW.out.grown hgrow (fun j hj => ⟨(HOA.out.lt j hj).1, by have := (HOA.out.lt j hj).1; omega⟩), hown'⟩
          · have gd : decide (0 < D) = true := by have := HDD.out; rw [decide_eq_true_eq]; omega
            obtain ⟨x0, x1, x2, x3, x4, x5⟩ := K3.six
            clear c0
            have hoA := (own_step HO.out ts3.st (by omega)).below (below_new0 wc (.cells #[.int .i64 6, .string t, .int .i64 s, .string n, .string h, .slice none 0 0] 56))
            have hkk : insS.sl (Shp.kind (fun _ => False) w.heap.size u5) wc (.slice none 0 0) Ins.nil := insS.sl_on hnil (Kept.mono fun j hj _ => ⟨.inr (by omega), fun e => by have := (HO.out.lt j e).2; omega⟩)
            have hsr := src_ins (a := 6) (t := t) (s := s) (n := n) (h := h) (ty := 56) hkk
            have hlL : insS.len L = i := hli
            have HOA := Lib.hid hoA
            have HSR := Lib.hid hsr
            have HLL := Lib.hid hlL
            have HTW := Lib.hid ((HTS.out.trans ts3).new (.cells #[.int .i64 6, .string t, .int .i64 s, .string n, .string h, .slice none 0 0] 56))
            have hzw : w.heap.size ≤ (wc.alloc (.cells #[.int .i64 6, .string t, .int .i64 s, .string n, .string h, .slice none 0 0] 56)).heap.size := by have := (HTS.out.trans ts3).size; simp; omega
            have HK2 := Lib.hid hkk
            clear hoA hsr hlL hkk hli
            go_wp2_with (at_builtin; go_must (refine append_shp insS tyI _ rfl _ _ rfl HOA.out rfl HSR.out rfl (by rw [HLL.out]; show (i + 1) * 89 ≤ _; omega) hzw ?_); intro v' w5 hown' hgrow hbel hkd)
            go_roundg (2 - i)
            case measure => omega
            case rel =>
              have hl2 : L.len = i := HLL.out
              have hs := HSZ.out
              have hks : Ins.nil.size ≤ S := Nat.zero_le _
              exact ⟨L.app (.cons 6 t s n h Ins.nil .nil), i + 1, by rw [Ins.len_app, hl2]; rfl, by omega, by go_num, by omega, Ins.tiny_app.2 ⟨HTI.out, ht, trivial, trivial⟩, by rw [Ins.size_app, Nat.succ_mul]; simp only [Ins.size]; omega, HTW.out.grown hgrow (fun j hj => ⟨(HOA.out.lt j hj).1, by have := (HOA.out.lt j hj).1; omega⟩), hown'⟩
    · have gi : decide ((i : Int) < (r : Int)) = false := by simp; omega
      obtain ⟨p, c, rfl⟩ := HO.out.form
      go_wp2_with fail
      go_ret
      have O1 := own_step HO.out st1 (by omega)
      have hm := Nat.mul_le_mul_right (S + 1) hi2
      have hs := HSZ.out
      exact ⟨p, c, L, rfl, HTI.out, by omega, HTS.out.trans ts1, insS.sl_on O1.sl (Kept.mono fun k hk _ => by rcases hk with hk | hk; exact hk.elim; exact hk)⟩
end Go.Proofs.YthieinfonomeeaaGreatDoor

namespace Go.Proofs.YthieinfonomeeaaGreatDoor
open Go.RowKit Doc
set_option linter.unusedVariables false
attribute [local go_sem ↓] Go.wp_at_zero Go.wp_at_succ

/-- short texts -/
def Doc.Bls.tiny : Bls → Prop
  | .nil => True
  | .cons _ _ t i k r => t.size ≤ 99 ∧ i.tiny ∧ k.tiny ∧ r.tiny
theorem Doc.Bls.tiny_app : ∀ {a b : Bls}, (a.app b).tiny ↔ a.tiny ∧ b.tiny
  | .nil, b => by simp [Bls.tiny]
  | .cons a l t i k r, b => by
    have := Bls.tiny_app (a := r) (b := b)
    simp only [Bls.app, Bls.tiny, this]
    exact ⟨fun ⟨h1, h2, h3, h4, h5⟩ => ⟨⟨h1, h2, h3, h4⟩, h5⟩, fun ⟨⟨h1, h2, h3, h4⟩, h5⟩ => ⟨h1, h2, h3, h4, h5⟩⟩
theorem Doc.Bls.tiny_bulk : ∀ l : Bls, l.tiny → l.bulk ≤ 100 * l.size
  | .nil, _ => Nat.le_refl _
  | .cons a l t i k r, hf => by
    have h1 := Ins.tiny_bulk i hf.2.1
    have h2 := Bls.tiny_bulk k hf.2.2.1
    have h3 := Bls.tiny_bulk r hf.2.2.2
    have h4 := hf.1
    simp only [Bls.bulk, Bls.size]
    omega
theorem Kept.tstep {q : Nat → Prop} {g : Nat} {w w' : World} (s : TStep g w w') (hq : ∀ k, q k → g < k) : Kept q q w w' := fun k hk hl => ⟨hk, s.rest k (hq k hk) hl⟩
theorem inl_2 : InlR 2 14 := inl_step 2 6 (by decide) (by decide) fun d' h => by
  obtain rfl : d' = 1 := by omega
  exact inl_step 1 2 (by decide) (by decide) fun d' h => by
    obtain rfl : d' = 0 := by omega
    exact inl_step 0 0 (by decide) (by decide) fun d' h => by omega
/-- blocks off the tape, d levels deep, at most S of them and of their elements -/
def BlsR (d S : Nat) : Prop := ∀ (g : Nat) (w : World), TP g w → Calls Tryz.prog 20 #[.pointer (some ⟨g, 0, none⟩), .int .i64 d] w fun e w' =>
  ∃ p c L, e = .returned (.slice p (Bls.len L) c) ∧ L.tiny ∧ L.size ≤ S ∧ TpS g w w' ∧ blsS.sl (fun k => w.heap.size ≤ k) w' (.slice p (Bls.len L) c) L

def codB : List ByteArray := [⟨#[120]⟩, ⟨#[97, 10, 60, 98, 62]⟩, ⟨#[]⟩]

set_option maxRecDepth 20000 in
set_option maxHeartbeats 1000000 in
theorem bls_step (d S : Nat) (hd : d ≤ 9) (hS : S ≤ 1000) (hK : ∀ d', d = d' + 1 → BlsR d' S) : BlsR d (4 * (S + 15)) := by
  intro g w h
  have hg := h.lt
  have hT := TpS.refl h
  clear h
  obtain ⟨D, hD⟩ : ∃ D : Int, D = (d : Int) := ⟨_, rfl⟩
  rw [← hD]
  have hD0 : 0 ≤ D := by omega
  have hD9 : D ≤ 9 := by omega
  have HDD := Lib.hid hD
  clear hD
  go_enter Tryz.func20, Tryz.ntmps20
  go_wp2_with fail
  go_loopg [5, 6, 7] 5 (fun m s5 s6 s7 wr => ∃ (L : Bls) (i : Nat), L.len = i ∧ i ≤ 4 ∧ s6 = .int .i64 i ∧ 5 ≤ i + m ∧ L.tiny ∧ L.size ≤ i * (S + 15) ∧ TpS g w wr ∧ blsS.own 44 (fun _ => False) w.heap.size wr s5 L)
  case atStart => exact ⟨.nil, 0, rfl, by omega, rfl, by omega, trivial, by simp [Bls.size], hT, Shp.own.nil⟩
  case round =>
    obtain ⟨L, i, hli, hi2, rfl, him, htiny, hsize, ts, hown⟩ := hrel
    have hwr := ts.size
    have tsr := TpS.refl ts.tp
    have hN := tNext g 5 wr wr (by omega) (by omega) tsr
    have HO := Lib.hid hown
    have HTS := Lib.hid ts
    have HTI := Lib.hid htiny
    have HSZ := Lib.hid hsize
    clear hown tsr ts htiny hsize
    go_wp2_with fail
    refine hN.mono ?_
    rintro e w1 ⟨r, rfl, hr, ts1, st1⟩
    clear hN
    have hw1 := ts1.size
    by_cases hir : i < r
    · have gi : decide ((i : Int) < (r : Int)) = true := by simp; omega
      have hN2 := tNext g 9 wr w1 (by omega) (by omega) ts1
      clear ts1 st1
      go_wp2_with fail
      refine hN2.mono ?_
      rintro e w2 ⟨q, rfl, hq, ts2, st2⟩
      clear hN2 st2
      have hN3 := tNext g 4 wr w2 (by omega) (by omega) ts2
      clear ts2
      go_wp2_with fail
      refine hN3.mono ?_
      rintro e w3 ⟨l, rfl, hl, ts3, st3⟩
      clear hN3 st3
      have hw3 := ts3.size
      have hI := inl_2 g w3 ts3.tp
      go_wp2_with fail
      refine hI.mono ?_
      rintro e w4 ⟨ip, ic, m, rfl, hmt, hms, tsx, hsl⟩
      clear hI
      have ts4 := ts3.trans tsx
      have hw4 := tsx.size
      obtain ⟨X, hX⟩ : ∃ X, X = w4.heap.size := ⟨_, rfl⟩
      have hgX : g < X := by omega
      have hrX : wr.heap.size ≤ X := by omega
      have hsm : insS.sl (fun k => wr.heap.size ≤ k ∧ k < X) w4 (.slice ip m.len ic) m := insS.sl_on hsl (Kept.mono fun k hk hl => ⟨by omega, by omega⟩)
      have hsV := insS.sl_on hsm (Kept.alloc (.cells #[.int .i64 (1 + (q : Int)), .int .i64 l, .string ⟨#[]⟩, .slice ip m.len ic, .slice none 0 0] 44))
      have tsV := ts4.new (.cells #[.int .i64 (1 + (q : Int)), .int .i64 l, .string ⟨#[]⟩, .slice ip m.len ic, .slice none 0 0] 44)
      have KX := Known.made w4 44 #[.int .i64 (1 + (q : Int)), .int .i64 l, .string ⟨#[]⟩, .slice ip m.len ic, .slice none 0 0]
      clear ts3 tsx ts4 hsl hsm
      go_upto_if 24 with fail
      obtain ⟨V, hV⟩ : ∃ V, V = w4.alloc (.cells #[.int .i64 (1 + (q : Int)), .int .i64 l, .string ⟨#[]⟩, .slice ip m.len ic, .slice none 0 0] 44) := ⟨_, rfl⟩
      rw [← hV] at tsV KX hsV ⊢
      rw [← hX] at KX ⊢
      have hVs := tsV.size
      have hXl := KX.lt
      clear hV hX
      go_cut [7] from 8 to 54 (fun s7 wc => s7 = .pointer (some ⟨X, 0, none⟩) ∧ TpS g wr wc ∧ ∃ (t : ByteArray), t.size ≤ 99 ∧ Known wc X 44 #[.int .i64 (1 + (q : Int)), .int .i64 l, .string t, .slice ip m.len ic, .slice none 0 0] ∧ insS.sl (fun k => wr.heap.size ≤ k ∧ k < X) wc (.slice ip m.len ic) m)
      case first =>
        by_cases q5 : q = 5
        · subst q5
          have hO := tOfNew g codB wr V 9 _ rfl (by decide) (by decide) (by decide) tsV
          go_wp2_with fail
          refine hO.mono ?_
          rintro e w5 ⟨t, rfl, ht, ts5, st5⟩
          have K5 := KX.tstep st5 (by omega)
          have hs5 := insS.sl_on hsV (Kept.tstep st5 (fun k hk => by omega))
          have f2 := K5.free 2
          have c2 := K5.cell 2
          have hXl := K5.lt
          clear hO
          go_wp2_with fail
          go_meet
          case rel => exact ⟨rfl, ts5.put hrX hgX _ _, t, ht, K5.put 2 _, insS.sl_on hs5 (Kept.put (fun k hk => by omega) _ _)⟩
        · have g1 : ((1 + (q : Int)) == 6) = false := by simp; omega
          go_wp2_with fail
          go_meet
          case rel => exact ⟨rfl, tsV, ⟨#[]⟩, by decide, KX, hsV⟩
      case rest =>
        obtain ⟨rfl, ts3, t, ht, K3, hsm⟩ := hcut
        have hXl := K3.lt
        have hw5 := ts3.size
        obtain ⟨a, ha⟩ : ∃ a : Int, a = 1 + (q : Int) := ⟨_, rfl⟩
        rw [← ha] at K3
        by_cases hk : 0 < d ∧ 3 ≤ a ∧ a ≠ 6 ∧ a ≠ 5
        · obtain ⟨d', hd'⟩ : ∃ d', d = d' + 1 := ⟨d - 1, by omega⟩
          have q1 : 2 ≤ q := by omega
          have q6 : q ≠ 5 := by omega
          have q5 : q ≠ 4 := by omega
          subst ha
          have gd : decide (0 < D) = true := by have := HDD.out; rw [decide_eq_true_eq]; omega
          have g3 : decide (3 ≤ 1 + (q : Int)) = true := by rw [decide_eq_true_eq]; omega
          have g5 : ((1 + (q : Int)) == 5) = false := by simp; omega
          have g6 : ((1 + (q : Int)) == 6) = false := by simp; omega
          have n5 : ((1 + (q : Int)) != 5) = true := by simp; omega
          have n6 : ((1 + (q : Int)) != 6) = true := by simp; omega
          have hd1 : D - 1 = (d' : Int) := by have := HDD.out; omega
          have hC := hK d' hd' g wc ts3.tp
          have HD := Lib.hid hd'
          clear hd'
          have c0 := K3.cell 0
          go_wp2_with fail
          refine hC.mono ?_
          rintro e w4 ⟨kp, kc, k, rfl, hkt, hks0, ts4, hsl⟩
          have K4 := K3.tstep ts4.st (by omega)
          have hsm4 := insS.sl_on hsm (Kept.tstep ts4.st (fun k hk => by omega))
          have f4 := K4.free 4
          have hXl4 := K4.lt
          have ts5 := (ts3.trans ts4).put hrX hgX 4 (.slice kp k.len kc)
          have hs4 := ts4.size
          have hsl5 := blsS.sl_on hsl (Kept.put (fun j hj => by omega : ∀ j, wc.heap.size ≤ j → j ≠ X) 4 (.slice kp k.len kc))
          have hsm5 := insS.sl_on hsm4 (Kept.put (fun j hj => by omega : ∀ j, (wr.heap.size ≤ j ∧ j < X) → j ≠ X) 4 (.slice kp k.len kc))
          have hsz5 : (w4.setCell ⟨X, 4, none⟩ (.slice kp k.len kc)).heap.size = w4.heap.size := by simp
          clear hC c0 hsl hsm4
          obtain ⟨x0, x1, x2, x3, x4⟩ := K4.five
          clear ts4 K4
          have hoA := (own_step HO.out ts5.st (by omega)).below (below_new0 (w4.setCell ⟨X, 4, none⟩ (.slice kp k.len kc)) (.cells #[.int .i64 (1 + (q : Int)), .int .i64 l, .string t, .slice ip m.len ic, .slice kp k.len kc] 44))
          have hkk : blsS.sl (Shp.kind (fun _ => False) w.heap.size u5) (w4.setCell ⟨X, 4, none⟩ (.slice kp k.len kc)) (.slice kp k.len kc) k := blsS.sl_on hsl5 (Kept.mono fun j hj _ => ⟨.inr (by omega), fun e => by have := (HO.out.lt j e).2; omega⟩)
          have hii : insS.sl (Shp.kind (fun _ => False) w.heap.size u5) (w4.setCell ⟨X, 4, none⟩ (.slice kp k.len kc)) (.slice ip m.len ic) m := insS.sl_on hsm5 (Kept.mono fun j hj _ => ⟨.inr (by omega), fun e => by have := (HO.out.lt j e).2; omega⟩)
          have hsr := src_bls (a := (1 + (q : Int))) (l := (l : Int)) (t := t) (ty := 44) hii hkk
          rw [hsz5] at hsr
          have hlL : blsS.len L = i := hli
          have HOA := Lib.hid hoA
          have HSR := Lib.hid hsr
          have HLL := Lib.hid hlL
          have HTW := Lib.hid ((HTS.out.trans ts5).new (.cells #[.int .i64 (1 + (q : Int)), .int .i64 l, .string t, .slice ip m.len ic, .slice kp k.len kc] 44))
          have hzw : w.heap.size ≤ ((w4.setCell ⟨X, 4, none⟩ (.slice kp k.len kc)).alloc (.cells #[.int .i64 (1 + (q : Int)), .int .i64 l, .string t, .slice ip m.len ic, .slice kp k.len kc] 44)).heap.size := by have := (HTS.out.trans ts5).size; simp; omega
          clear hoA hsr hlL hkk hii hli
          go_wp2_with (at_builtin; go_must (refine append_shp blsS tyB _ rfl _ _ rfl HOA.out rfl HSR.out rfl (by rw [HLL.out]; show (i + 1) * 81 ≤ _; omega) hzw ?_); intro v' w5 hown' hgrow hbel hkd)
          go_roundg (4 - i)
          case measure => omega
          case rel =>
            have hl2 : L.len = i := HLL.out
            have hs := HSZ.out
            have hks : k.size ≤ S := hks0
            exact ⟨L.app (.cons (1 + (q : Int)) l t m k .nil), i + 1, by rw [Bls.len_app, hl2]; rfl, by omega, by go_num, by omega, Bls.tiny_app.2 ⟨HTI.out, ht, hmt, hkt, trivial⟩, by rw [Bls.size_app, Nat.succ_mul]; simp only [Bls.size]; omega, HTW.out.grown hgrow (fun j hj => ⟨(HOA.out.lt j hj).1, by have := (HOA.out.lt j hj).1; omega⟩), hown'⟩
        · have hnil : blsS.sl (fun j => wc.heap.size ≤ j) wc (.slice none 0 0) Bls.nil := Sl.empty
          have hkk0 : d = 0 ∨ (0 < d ∧ a = 1) ∨ (0 < d ∧ a = 2) ∨ (0 < d ∧ a = 6) ∨ (0 < d ∧ a = 5) := by omega
          clear ha
          rcases hkk0 with h0 | ⟨h0, rfl⟩ | ⟨h0, rfl⟩ | ⟨h0, rfl⟩ | ⟨h0, rfl⟩
          · obtain ⟨x0, x1, x2, x3, x4⟩ := K3.five
            have gd : decide (0 < D) = false := by have := HDD.out; rw [decide_eq_false_iff_not]; omega
            have hoA := (own_step HO.out ts3.st (by omega)).below (below_new0 wc (.cells #[.int .i64 a, .int .i64 l, .string t, .slice ip m.len ic, .slice none 0 0] 44))
            have hkk : blsS.sl (Shp.kind (fun _ => False) w.heap.size u5) wc (.slice none 0 0) Bls.nil := blsS.sl_on hnil (Kept.mono fun j hj _ => ⟨.inr (by omega), fun e => by have := (HO.out.lt j e).2; omega⟩)
            have hii : insS.sl (Shp.kind (fun _ => False) w.heap.size u5) wc (.slice ip m.len ic) m := insS.sl_on hsm (Kept.mono fun j hj _ => ⟨.inr (by omega), fun e => by have := (HO.out.lt j e).2; omega⟩)
            have hsr := src_bls (a := a) (l := (l : Int)) (t := t) (ty := 44) hii hkk
            have hlL : blsS.len L = i := hli
            have HOA := Lib.hid hoA
            have HSR := Lib.hid hsr
            have HLL := Lib.hid hlL
            have HTW := Lib.hid ((HTS.out.trans ts3).new (.cells #[.int .i64 a, .int .i64 l, .string t, .slice ip m.len ic, .slice none 0 0] 44))
            have hzw : w.heap.size ≤ (wc.alloc (.cells #[.int .i64 a, .int .i64 l, .string t, .slice ip m.len ic, .slice none 0 0] 44)).heap.size := by have := (HTS.out.trans ts3).size; simp; omega
            clear hoA hsr hlL hkk hii hli
            go_wp2_with (at_builtin; go_must (refine append_shp blsS tyB _ rfl _ _ rfl HOA.out rfl HSR.out rfl (by rw [HLL.out]; show (i + 1) * 81 ≤ _; omega) hzw ?_); intro v' w5 hown' hgrow hbel hkd)
            go_roundg (4 - i)
            case measure => omega
            case rel =>
              have hl2 : L.len = i := HLL.out
              have hs := HSZ.out
              have hks : Bls.nil.size ≤ S := Nat.zero_le _
              exact ⟨L.app (.cons a l t m Bls.nil .nil), i + 1, by rw [Bls.len_app, hl2]; rfl, by omega, by go_num, by omega, Bls.tiny_app.2 ⟨HTI.out, ht, hmt, trivial, trivial⟩, by rw [Bls.size_app, Nat.succ_mul]; simp only [Bls.size]; omega, HTW.out.grown hgrow (fun j hj => ⟨(HOA.out.lt j hj).1, by have := (HOA.out.lt j hj).1; omega⟩), hown'⟩
          · obtain ⟨x0, x1, x2, x3, x4⟩ := K3.five
            have gd : decide (0 < D) = true := by have := HDD.out; rw [decide_eq_true_eq]; omega
            have hoA := (own_step HO.out ts3.st (by omega)).below (below_new0 wc (.cells #[.int .i64 1, .int .i64 l, .string t, .slice ip m.len ic, .slice none 0 0] 44))
            have hkk : blsS.sl (Shp.kind (fun _ => False) w.heap.size u5) wc (.slice none 0 0) Bls.nil := blsS.sl_on hnil (Kept.mono fun j hj _ => ⟨.inr (by omega), fun e => by have := (HO.out.lt j e).2; omega⟩)
            have hii : insS.sl (Shp.kind (fun _ => False) w.heap.size u5) wc (.slice ip m.len ic) m := insS.sl_on hsm (Kept.mono fun j hj _ => ⟨.inr (by omega), fun e => by have := (HO.out.lt j e).2; omega⟩)
            have hsr := src_bls (a := 1) (l := (l : Int)) (t := t) (ty := 44) hii hkk
            have hlL : blsS.len L = i := hli
            have HOA := Lib.hid hoA
            have HSR := Lib.hid hsr
            have HLL := Lib.hid hlL
            have HTW := Lib.hid ((HTS.out.trans ts3).new (.cells #[.int .i64 1, .int .i64 l, .string t, .slice ip m.len ic, .slice none 0 0] 44))
            have hzw : w.heap.size ≤ (wc.alloc (.cells #[.int .i64 1, .int .i64 l, .string t, .slice ip m.len ic, .slice none 0 0] 44)).heap.size := by have := (HTS.out.trans ts3).size; simp; omega
            clear hoA hsr hlL hkk hii hli
            go_wp2_with (at_builtin; go_must (refine append_shp blsS tyB _ rfl _ _ rfl HOA.out rfl HSR.out rfl (by rw [HLL.out]; show (i + 1) * 81 ≤ _; omega) hzw ?_); intro v' w5 hown' hgrow hbel hkd)
            go_roundg (4 - i)
            case measure => omega
            case rel =>
              have hl2 : L.len = i := HLL.out
              have hs := HSZ.out
              have hks : Bls.nil.size ≤ S := Nat.zero_le _
              exact ⟨L.app (.cons 1 l t m Bls.nil .nil), i + 1, by rw [Bls.len_app, hl2]; rfl, by omega, by go_num, by omega, Bls.tiny_app.2 ⟨HTI.out, ht, hmt, trivial, trivial⟩, by rw [Bls.size_app, Nat.succ_mul]; simp only [Bls.size]; omega, HTW.out.grown hgrow (fun j hj => ⟨(HOA.out.lt j hj).1, by have := (HOA.out.lt j hj).1; omega⟩), hown'⟩
          · obtain ⟨x0, x1, x2, x3, x4⟩ := K3.five
            have gd : decide (0 < D) = true := by have := HDD.out; rw [decide_eq_true_eq]; omega
            have hoA := (own_step HO.out ts3.st (by omega)).below (below_new0 wc (.cells #[.int .i64 2, .int .i64 l, .string t, .slice ip m.len ic, .slice none 0 0] 44))
            have hkk : blsS.sl (Shp.kind (fun _ => False) w.heap.size u5) wc (.slice none 0 0) Bls.nil := blsS.sl_on hnil (Kept.mono fun j hj _ => ⟨.inr (by omega), fun e => by have := (HO.out.lt j e).2; omega⟩)
            have hii : insS.sl (Shp.kind (fun _ => False) w.heap.size u5) wc (.slice ip m.len ic) m := insS.sl_on hsm (Kept.mono fun j hj _ => ⟨.inr (by omega), fun e => by have := (HO.out.lt j e).2; omega⟩)
            have hsr := src_bls (a := 2) (l := (l : Int)) (t := t) (ty := 44) hii hkk
            have hlL : blsS.len L = i := hli
            have HOA := Lib.hid hoA
            have HSR := Lib.hid hsr
            have HLL := Lib.hid hlL
            have HTW := Lib.hid ((HTS.out.trans ts3).new (.cells #[.int .i64 2, .int .i64 l, .string t, .slice ip m.len ic, .slice none 0 0] 44))
            have hzw : w.heap.size ≤ (wc.alloc (.cells #[.int .i64 2, .int .i64 l, .string t, .slice ip m.len ic, .slice none 0 0] 44)).heap.size := by have := (HTS.out.trans ts3).size; simp; omega
            clear hoA hsr hlL hkk hii hli
            go_wp2_with (at_builtin; go_must (refine append_shp blsS tyB _ rfl _ _ rfl HOA.out rfl HSR.out rfl (by rw [HLL.out]; show (i + 1) * 81 ≤ _; omega) hzw ?_); intro v' w5 hown' hgrow hbel hkd)
            go_roundg (4 - i)
            case measure => omega
            case rel =>
              have hl2 : L.len = i := HLL.out
              have hs := HSZ.out
              have hks : Bls.nil.size ≤ S := Nat.zero_le _
              exact ⟨L.app (.cons 2 l t m Bls.nil .nil), i + 1, by rw [Bls.len_app, hl2]; rfl, by omega, by go_num, by omega, Bls.tiny_app.2 ⟨HTI.out, ht, hmt, trivial, trivial⟩, by rw [Bls.size_app, Nat.succ_mul]; simp only [Bls.size]; omega, HTW.out.grown hgrow (fun j hj => ⟨(HOA.out.lt j hj).1, by have := (HOA.out.lt j hj).1; omega⟩), hown'⟩
          · obtain ⟨x0, x1, x2, x3, x4⟩ := K3.five
            have gd : decide (0 < D) = true := by have := HDD.out; rw [decide_eq_true_eq]; omega
            have hoA := (own_step HO.out ts3.st (by omega)).below (below_new0 wc (.cells #[.int .i64 6, .int .i64 l, .string t, .slice ip m.len ic, .slice none 0 0] 44))
            have hkk : blsS.sl (Shp.kind (fun _ => False) w.heap.size u5) wc (.slice none 0 0) Bls.nil := blsS.sl_on hnil (Kept.mono fun j hj _ => ⟨.inr (by omega), fun e => by have := (HO.out.lt j e).2; omega⟩)
            have hii : insS.sl (Shp.kind (fun _ => False) w.heap.size u5) wc (.slice ip m.len ic) m := insS.sl_on hsm (Kept.mono fun j hj _ => ⟨.inr (by omega), fun e => by have := (HO.out.lt j e).2; omega⟩)
            have hsr := src_bls (a := 6) (l := (l : Int)) (t := t) (ty := 44) hii hkk
            have hlL : blsS.len L = i := hli
            have HOA := Lib.hid hoA
            have HSR := Lib.hid hsr
            have HLL := Lib.hid hlL
            have HTW := Lib.hid ((HTS.out.trans ts3).new (.cells #[.int .i64 6, .int .i64 l, .string t, .slice ip m.len ic, .slice none 0 0] 44))
            have hzw : w.heap.size ≤ (wc.alloc (.cells #[.int .i64 6, .int .i64 l, .string t, .slice ip m.len ic, .slice none 0 0] 44)).heap.size := by have := (HTS.out.trans ts3).size; simp; omega
            clear hoA hsr hlL hkk hii hli
            go_wp2_with (at_builtin; go_must (refine append_shp blsS tyB _ rfl _ _ rfl HOA.out rfl HSR.out rfl (by rw [HLL.out]; show (i + 1) * 81 ≤ _; omega) hzw ?_); intro v' w5 hown' hgrow hbel hkd)
            go_roundg (4 - i)
            case measure => omega
            case rel =>
              have hl2 : L.len = i := HLL.out
              have hs := HSZ.out
              have hks : Bls.nil.size ≤ S := Nat.zero_le _
              exact ⟨L.app (.cons 6 l t m Bls.nil .nil), i + 1, by rw [Bls.len_app, hl2]; rfl, by omega, by go_num, by omega, Bls.tiny_app.2 ⟨HTI.out, ht, hmt, trivial, trivial⟩, by rw [Bls.size_app, Nat.succ_mul]; simp only [Bls.size]; omega, HTW.out.grown hgrow (fun j hj => ⟨(HOA.out.lt j hj).1, by have := (HOA.out.lt j hj).1; omega⟩), hown'⟩
          · obtain ⟨x0, x1, x2, x3, x4⟩ := K3.five
            have gd : decide (0 < D) = true := by have := HDD.out; rw [decide_eq_true_eq]; omega
            have hoA := (own_step HO.out ts3.st (by omega)).below (below_new0 wc (.cells #[.int .i64 5, .int .i64 l, .string t, .slice ip m.len ic, .slice none 0 0] 44))
            have hkk : blsS.sl (Shp.kind (fun _ => False) w.heap.size u5) wc (.slice none 0 0) Bls.nil := blsS.sl_on hnil (Kept.mono fun j hj _ => ⟨.inr (by omega), fun e => by have := (HO.out.lt j e).2; omega⟩)
            have hii : insS.sl (Shp.kind (fun _ => False) w.heap.size u5) wc (.slice ip m.len ic) m := insS.sl_on hsm (Kept.mono fun j hj _ => ⟨.inr (by omega), fun e => by have := (HO.out.lt j e).2; omega⟩)
            have hsr := src_bls (a := 5) (l := (l : Int)) (t := t) (ty := 44) hii hkk
            have hlL : blsS.len L = i := hli
            have HOA := Lib.hid hoA
            have HSR := Lib.hid hsr
            have HLL := Lib.hid hlL
            have HTW := Lib.hid ((HTS.out.trans ts3).new (.cells #[.int .i64 5, .int .i64 l, .string t, .slice ip m.len ic, .slice none 0 0] 44))
            have hzw : w.heap.size ≤ (wc.alloc (.cells #[.int .i64 5, .int .i64 l, .string t, .slice ip m.len ic, .slice none 0 0] 44)).heap.size := by have := (HTS.out.trans ts3).size; simp; omega
            clear hoA hsr hlL hkk hii hli
            go_wp2_with (at_builtin; go_must (refine append_shp blsS tyB _ rfl _ _ rfl HOA.out rfl HSR.out rfl (by rw [HLL.out]; show (i + 1) * 81 ≤ _; omega) hzw ?_); intro v' w5 hown' hgrow hbel hkd)
            go_roundg (4 - i)
            case measure => omega
            case rel =>
              have hl2 : L.len = i := HLL.out
              have hs := HSZ.out
              have hks : Bls.nil.size ≤ S := Nat.zero_le _
              exact ⟨L.app (.cons 5 l t m Bls.nil .nil), i + 1, by rw [Bls.len_app, hl2]; rfl, by omega, by go_num, by omega, Bls.tiny_app.2 ⟨HTI.out, ht, hmt, trivial, trivial⟩, by rw [Bls.size_app, Nat.succ_mul]; simp only [Bls.size]; omega, HTW.out.grown hgrow (fun j hj => ⟨(HOA.out.lt j hj).1, by have := (HOA.out.lt j hj).1; omega⟩), hown'⟩
    · have gi : decide ((i : Int) < (r : Int)) = false := by simp; omega
      obtain ⟨p, c, rfl⟩ := HO.out.form
      go_wp2_with fail
      go_ret
      have O1 := own_step HO.out st1 (by omega)
      have hm := Nat.mul_le_mul_right (S + 15) hi2
      have hs := HSZ.out
      exact ⟨p, c, L, rfl, HTI.out, by omega, HTS.out.trans ts1, blsS.sl_on O1.sl (Kept.mono fun k hk _ => by rcases hk with hk | hk; exact hk.elim; exact hk)⟩
theorem bls_0 : BlsR 0 60 := bls_step 0 0 (by decide) (by decide) fun d' h => by omega
theorem bls_1 : BlsR 1 300 := bls_step 1 60 (by decide) (by decide) fun d' h => by
  obtain rfl : d' = 0 := by omega
  exact bls_0
theorem bls_2 : BlsR 2 1260 := bls_step 2 300 (by decide) (by decide) fun d' h => by
  obtain rfl : d' = 1 := by omega
  exact bls_1
end Go.Proofs.YthieinfonomeeaaGreatDoor
