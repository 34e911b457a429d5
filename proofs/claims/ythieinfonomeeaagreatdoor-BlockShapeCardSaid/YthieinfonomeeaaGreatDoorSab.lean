/-
  The law about the shape of blocks. Condition: the library's MaxLen holds a number.
  The law about the shape of blocks, whole. Condition: the library's MaxLen holds a number.
-/
import Derived.Test.YthieinfonomeeaaGreatDoorAbb
import Derived.Test.YthieinfonomeeaaGreatDoorCab
import Derived.WideMake
import Derived.Test.YthieinfonomeeaaGreatDoorPab

namespace Go.Proofs.YthieinfonomeeaaGreatDoor
open Go.RowKit Doc Tit Inl Blk
set_option linter.unusedVariables false
attribute [local go_sem ↓] Go.wp_at_zero Go.wp_at_succ

attribute [local go_sem] Go.run_makeMap_plain
theorem ins_int {w : World} {r : Nat} {es : Array MapEntry} {clock : Nat} (hb : w.heap[r]? = some (.map es clock)) (x y : Int) (hn : Instr.findNow (.int .i64) (.int .i64 x) es.toList 0 = some none) :
    ∃ w', (Instr.mapUpdate 74 (.map (some r)) (.int .i64 x) (.int .i64 y)).run Tryz.prog w = .ok () w' ∧ w'.heap[r]? = some (.map (es.push { key := .int .i64 x, val := .int .i64 y, born := clock }) (clock + 1)) ∧ (∀ k, k ≠ r → w'.heap[k]? = w.heap[k]?) ∧ w'.heap.size = w.heap.size ∧ Below r w w' := by
  have hl : r < w.heap.size := lt_of_block hb
  have hc : (Instr.checkKey false 10000 3 (.int .i64 x)).run Tryz.prog w = .ok () w := MapKept.run_checkKey (k := .int .i64 x) Tryz.underlying3 (by simp [MapKept.IsKey]) false 9999
  refine ⟨{ w with heap := w.heap.setIfInBounds r (.map (es.push { key := .int .i64 x, val := .int .i64 y, born := clock }) (clock + 1)) }, ?_, ?_, ?_, ?_, ?_⟩
  · simp [Instr.mapUpdate, run_underlying Tryz.underlying74, MapKept.run_getObj_map hb, hc, MapKept.run_findKey Tryz.underlying3 hn, MapKept.run_setObj_map _ hb, Result.andThen]
  · show (w.heap.setIfInBounds r _)[r]? = _
    rw [Array.getElem?_setIfInBounds_self_of_lt hl]
  · intro k hk
    show (w.heap.setIfInBounds r _)[k]? = _
    rw [Array.getElem?_setIfInBounds_ne (Ne.symm hk)]
  · show (w.heap.setIfInBounds r _).size = _
    rw [Array.size_setIfInBounds]
  · refine ⟨rfl, rfl, rfl, ?_, fun k hk => ?_⟩
    · show _ ≤ (w.heap.setIfInBounds r _).size
      rw [Array.size_setIfInBounds]; exact Nat.le_refl _
    · show (w.heap.setIfInBounds r _)[k]? = _
      rw [Array.getElem?_setIfInBounds_ne (by omega)]
theorem look_int {w : World} {r : Nat} {es : Array MapEntry} {clock : Nat} (hb : w.heap[r]? = some (.map es clock)) (he : es.isEmpty = false) (x : Int) {o : Option (Nat × Value)} (hn : Instr.findNow (.int .i64) (.int .i64 x) es.toList 0 = some o) :
    (Instr.lookup 74 (.map (some r)) (.int .i64 x) false).run Tryz.prog w = .ok ((o.map (·.2)).getD (.int .i64 0)) w := by
  have hc : (Instr.checkKey false 10000 3 (.int .i64 x)).run Tryz.prog w = .ok () w := MapKept.run_checkKey (k := .int .i64 x) Tryz.underlying3 (by simp [MapKept.IsKey]) false 9999
  cases o with
  | none => simp [Instr.lookup, run_underlying Tryz.underlying74, MapKept.run_getObj_map hb, he, hc, MapKept.run_findKey Tryz.underlying3 hn, Result.andThen, go_sem]
  | some o => simp [Instr.lookup, run_underlying Tryz.underlying74, MapKept.run_getObj_map hb, he, hc, MapKept.run_findKey Tryz.underlying3 hn, Result.andThen]
theorem alloc_at (w : World) (o : Obj) : (w.alloc o).heap[w.heap.size]? = some o := by
  show (w.heap.push o)[w.heap.size]? = _
  simp
def kindMap : Array MapEntry := #[{ key := .int .i64 3, val := .int .i64 4, born := 0 }, { key := .int .i64 4, val := .int .i64 3, born := 1 }, { key := .int .i64 7, val := .int .i64 8, born := 2 }, { key := .int .i64 8, val := .int .i64 9, born := 3 }]
theorem kindMap_find (a : Int) : ∃ o, Instr.findNow (.int .i64) (.int .i64 a) kindMap.toList 0 = some o ∧ (o.map (·.2)).getD (.int .i64 0) = .int .i64 (wantK a) := by
  by_cases h3 : a = 3
  · subst h3; exact ⟨_, rfl, rfl⟩
  by_cases h4 : a = 4
  · subst h4; exact ⟨_, rfl, rfl⟩
  by_cases h7 : a = 7
  · subst h7; exact ⟨_, rfl, rfl⟩
  by_cases h8 : a = 8
  · subst h8; exact ⟨_, rfl, rfl⟩
  refine ⟨none, ?_, ?_⟩
  · have e3 : (a == 3) = false := by simpa using h3
    have e4 : (a == 4) = false := by simpa using h4
    have e7 : (a == 7) = false := by simpa using h7
    have e8 : (a == 8) = false := by simpa using h8
    simp [kindMap, Instr.findNow, Instr.sameNow, e3, e4, e7, e8]
  · simp [wantK, h3, h4, h7, h8]
set_option maxRecDepth 20000 in
set_option maxHeartbeats 4000000 in
theorem shape_any : ∀ (N : Nat) (q : Nat → Prop) (a l : Int) (t : ByteArray) (i : Ins) (k : Bls) (ip : Option Addr) (ic : Nat) (kp : Option Addr) (kc : Nat) (w : World), k.size < N → k.size ≤ 1000000 → headOk a l t i.len k.len → kindsAre (wantK a) k → shapeB k → blsS.sl q w (.slice kp k.len kc) k →
    Calls Tryz.prog 24 #[.agg #[.int .i64 a, .int .i64 l, .string t, .slice ip i.len ic, .slice kp k.len kc]] w fun e w' => e = .returned (.bool true) ∧ Below w.heap.size w w' := by
  intro N
  induction N with
  | zero => intro q a l t i k ip ic kp kc w hN; exact absurd hN (Nat.not_lt_zero _)
  | succ N ih =>
    intro q a l t i k ip ic kp kc w hN hM hh hk hs hv
    obtain ⟨hF, -, hnc, hc⟩ := Shp.rest_start hv
    have hlen := k.len_size
    obtain ⟨n, hn⟩ : ∃ n, n = k.len := ⟨_, rfl⟩
    obtain ⟨m, hm⟩ : ∃ m, m = i.len := ⟨_, rfl⟩
    rw [← hn] at hlen hnc hh ⊢
    rw [← hm] at hh ⊢
    have HH := Lib.hid hh
    have HN := Lib.hid hn
    have HMM := Lib.hid hm
    clear hv hh hn hm
    go_enter Tryz.func24, Tryz.ntmps24
    go_wp2_with fail
    generalize hW1 : (w.alloc (.cells #[.int .i64 a, .int .i64 l, .string t, .slice ip m ic, .slice kp n kc] 44)).alloc (.map #[] 0) = W1
    replace hW1 := hW1.symm
    have hK1 : Known W1 w.heap.size 44 #[.int .i64 a, .int .i64 l, .string t, .slice ip m ic, .slice kp n kc] := by rw [hW1]; exact (Known.made w _ _).alloc _
    have hr1 : W1.heap[w.heap.size + 1]? = some (.map #[] 0) := by
      have h := alloc_at (w.alloc (.cells #[.int .i64 a, .int .i64 l, .string t, .slice ip m ic, .slice kp n kc] 44)) (.map #[] 0)
      rw [World.size_alloc] at h
      rw [hW1]; exact h
    have hz1 : W1.heap.size = w.heap.size + 2 := by rw [hW1]; simp
    have hb1 : Below w.heap.size w W1 := by rw [hW1]; exact below_then (below_new0 _ _) (below_new0 _ _)
    clear hW1
    obtain ⟨w2, r2, m2, k2, s2, b2⟩ := ins_int hr1 3 4 rfl
    rw [r2]
    clear r2
    go_wp2_with fail
    obtain ⟨w3, r3, m3, k3, s3, b3⟩ := ins_int m2 4 3 rfl
    rw [r3]
    clear r3
    go_wp2_with fail
    obtain ⟨w4, r4, m4, k4, s4, b4⟩ := ins_int m3 7 8 rfl
    rw [r4]
    clear r4
    go_wp2_with fail
    obtain ⟨w5, r5, m5, k5, s5, b5⟩ := ins_int m4 8 9 rfl
    rw [r5]
    clear r5
    have hK5 : Known w5 w.heap.size 44 #[.int .i64 a, .int .i64 l, .string t, .slice ip m ic, .slice kp n kc] := by
      unfold Known
      rw [k5 _ (by omega), k4 _ (by omega), k3 _ (by omega), k2 _ (by omega)]
      exact hK1
    have hb5 : Below w.heap.size w w5 := ((((hb1.trans (b2.mono (by omega))).trans (b3.mono (by omega))).trans (b4.mono (by omega))).trans (b5.mono (by omega)))
    have hz5 : w5.heap.size = w.heap.size + 2 := by omega
    have m5' : w5.heap[w.heap.size + 1]? = some (.map kindMap 4) := m5
    obtain ⟨oo, hf1, hf2⟩ := kindMap_find a
    have hlk := look_int m5' rfl a hf1
    rw [hf2] at hlk
    obtain ⟨x0, x1, x2, x3, x4⟩ := hK5.five
    have hl5 := hK5.lt
    have HLK := Lib.hid hlk
    have HK5 := Lib.hid hK5
    have HB5 := Lib.hid hb5
    clear hlk hK5 hb5 hf1 hf2 hr1 m2 m3 m4 m5 m5' k2 k3 k4 k5 b2 b3 b4 b5 hK1 hb1 s2 s3 s4 s5
    go_wp2_with fail
    rw [HLK.out]
    go_wp2_with fail
    obtain ⟨ww, hww⟩ : ∃ ww, ww = w := ⟨_, rfl⟩
    subst hww
    go_loopg [4] (n + 1) (fun g s4 wr => ∃ (A R : Bls), s4 = .int .i64 A.len ∧ A.len + R.len = n ∧ R.len < g ∧ Below w5.heap.size w5 wr ∧ blsS.rest q ww kp A.len R ∧ kindsAre (wantK a) R ∧ shapeB R ∧ R.size ≤ k.size)
    case atStart => exact ⟨.nil, k, rfl, by simp [Bls.len]; exact HN.out.symm, by rw [← HN.out]; omega, Below.refl _ _, hF, hk, hs, Nat.le_refl _⟩
    case round =>
      obtain ⟨A, R, rfl, hi1, hg, hb, hR, hkR, hsR, hsz⟩ := hrel
      generalize hi : A.len = j at *
      have HI := Lib.hid hi
      clear hi
      have hK6 := HK5.out.on hb
      obtain ⟨y0, y1, y2, y3, y4⟩ := hK6.five
      have hl6 := hK6.lt
      have HB6 := Lib.hid (below_then HB5.out hb)
      have HBL := Lib.hid hb
      clear hK6 hb x0 x1 x2 x3 x4
      cases R with
      | nil =>
        have g1 : decide (j < n) = false := by simp [Bls.len] at hi1; simp; omega
        have hh := HH.out
        clear hR hi1 hkR hsR
        rcases hh with ⟨rfl, h2, rfl, h4, h5⟩ | ⟨rfl, h2, rfl⟩ | ⟨rfl, h2, h3⟩ | ⟨rfl, rfl⟩ | ⟨h1, rfl⟩
        · have e1 : decide (0 < n) = true := decide_eq_true h2
          have e2 : decide (0 ≤ l) = true := decide_eq_true h4
          have e3 : decide (l ≤ 1) = true := decide_eq_true h5
          go_wp2_with fail
          go_ret
          exact ⟨rfl, HB6.out⟩
        · have e1 : decide (0 < n) = true := decide_eq_true h2
          go_wp2_with fail
          go_ret
          exact ⟨rfl, HB6.out⟩
        · have e2 : decide (1 ≤ l) = true := decide_eq_true h2
          have e3 : decide (l ≤ 6) = true := decide_eq_true h3
          go_wp2_with fail
          go_ret
          exact ⟨rfl, HB6.out⟩
        · go_wp2_with fail
          go_ret
          exact ⟨rfl, HB6.out⟩
        · rcases h1 with rfl | rfl | rfl | rfl | rfl
          all_goals
            go_wp2_with fail
            go_ret
            exact ⟨rfl, HB6.out⟩
      | cons a' l' t' ii kk r =>
        rcases hR with hR | ⟨d, o, ys, rfl, hqb, hbl, hA, hE⟩
        · cases hR
        · obtain ⟨ip2, ic2, kp2, kc2, c0, c1, c2, c3, c4, hisl, hk2, hr⟩ := (BEnc.on (Kept.below HB6.out) hE).head (hA.of_heap (HB6.out.block d hbl))
          have g1 : decide (j < n) = true := by simp [Bls.len] at hi1; simp; omega
          have hjn : j < n := by simp [Bls.len] at hi1; omega
          obtain ⟨rfl, hkr⟩ := hkR
          obtain ⟨q1, q2, q3, q4⟩ := hsR
          have hsz2 : ii.size + kk.size + r.size + 1 ≤ k.size := hsz
          have hC := ih q (wantK a) l' t' ii kk ip2 ic2 kp2 kc2 wr (by omega) (by omega) q1 q2 q3 hk2
          have hT : blsS.rest q ww (some ⟨d, o, none⟩) (j + 1) r := .inr ⟨d, o, ys, rfl, hqb, hbl, hA, hE.tail⟩
          have HT := Lib.hid hT
          have HKR := Lib.hid hkr
          have HQ4 := Lib.hid q4
          have HG := Lib.hid hi1
          have HGG := Lib.hid hg
          have hbl2 : d < wr.heap.size := Nat.lt_of_lt_of_le hbl HB6.out.size
          have hl : (A.app (.cons (wantK a) l' t' ii kk .nil)).len = j + 1 := by rw [Bls.len_app, HI.out]; rfl
          have HL := Lib.hid hl
          obtain ⟨wk, hwk⟩ : ∃ wk, wantK a = wk := ⟨_, rfl⟩
          rw [hwk] at c0 hC ⊢
          have HWK := Lib.hid hwk
          have HC := Lib.hid hC
          have g5 : (wk != wk) = false := by simp
          clear hE hA hr hi1 hT hg hC hk2 hisl hkr q1 q2 q3 q4 hwk hl hk hs
          go_wp2_with fail
          refine HC.out.mono ?_
          rintro e w6 ⟨rfl, hb6⟩
          go_wp2_with fail
          have HG2 := HG.out
          have HG3 := HGG.out
          simp only [Bls.len] at HG2 HG3
          have hwk := HWK.out
          subst hwk
          go_roundg (r.len + 1)
          case measure => omega
          case rel => exact ⟨A.app (.cons (wantK a) l' t' ii kk .nil), r, by rw [HL.out]; go_num, by rw [HL.out]; omega, by omega, below_then HBL.out hb6, by rw [HL.out]; exact HT.out, HKR.out, HQ4.out, by omega⟩
end Go.Proofs.YthieinfonomeeaaGreatDoor

namespace Go.Proofs.YthieinfonomeeaaGreatDoor
open Go.RowKit Doc Tit Inl Blk
set_option linter.unusedVariables false
attribute [local go_sem ↓] Go.wp_at_zero Go.wp_at_succ

set_option maxRecDepth 20000 in
set_option maxHeartbeats 4000000 in
theorem law_shape (s : ByteArray) (w : World) (hm : MX w) : Calls Tryz.prog 7 #[.string s] w fun e w' => e = .returned (.bool true) ∧ Below w.heap.size w w' := by
  have HM := Lib.hid hm
  have hKN := fun (W : World) (hb : Below w.heap.size w W) => bknown_any W (HM.out.below hb)
  have HKN := Lib.hid hKN
  clear hKN
  by_cases hs : s.size ≤ 600
  · have g1 : decide ((600 : Int) < (s.size : Int)) = false := decide_eq_false (by omega)
    have hP := pbparse_any s w (by omega) hm
    have hbs := blocks_shape _ (lines s.data.toList) (Nat.le_refl _)
    rw [← blocks_BL] at hbs
    have hbz := blocks_size s.data.toList
    have hz : s.data.toList.length = s.size := by simp
    obtain ⟨L, hL⟩ : ∃ L, blocks s.data.toList = L := ⟨_, rfl⟩
    rw [hL] at hP hbs hbz
    have hLz : L.size ≤ 3000 := by omega
    have HP := Lib.hid hP
    have HBS := Lib.hid hbs
    clear hP hbs hbz hz hL hm
    go_enter Tryz.func7, Tryz.ntmps7
    go_wp2_with fail
    refine HP.out.mono ?_
    rintro e w1 ⟨p, c, rfl, hsl, hb1⟩
    obtain ⟨hF, -, hnc, hc⟩ := Shp.rest_start hsl
    have hlen := L.len_size
    obtain ⟨n, hn⟩ : ∃ n, n = L.len := ⟨_, rfl⟩
    rw [← hn] at hlen hnc ⊢
    have HN := Lib.hid hn
    have HB1 := Lib.hid hb1
    have HF := Lib.hid hF
    clear hn hsl hb1 hF HP
    go_wp2_with fail
    go_loopg [5] (n + 1) (fun g s5 wr => ∃ (A R : Bls), s5 = .int .i64 A.len ∧ A.len + R.len = n ∧ R.len < g ∧ Below w1.heap.size w1 wr ∧ blsS.rest (fun k => w.heap.size ≤ k) w1 p A.len R ∧ topB R ∧ shapeB R ∧ R.size ≤ L.size)
    case atStart => exact ⟨.nil, L, rfl, by simp [Bls.len]; exact HN.out.symm, by rw [← HN.out]; omega, Below.refl _ _, HF.out, HBS.out.1, HBS.out.2, Nat.le_refl _⟩
    case round =>
      obtain ⟨A, R, rfl, hi1, hg, hb, hR, htR, hsR, hsz⟩ := hrel
      generalize hi : A.len = j at *
      have HI := Lib.hid hi
      have hbw := below_then HB1.out hb
      have HBW := Lib.hid hbw
      clear hi hbw
      cases R with
      | nil =>
        have g1 : decide (j < n) = false := by simp [Bls.len] at hi1; simp; omega
        clear hR hi1 htR hsR
        go_wp2_with fail
        refine (HKN.out _ HBW.out).mono ?_
        rintro e w2 ⟨rfl, hb2⟩
        go_wp2_with fail
        go_ret
        exact ⟨rfl, below_then HBW.out hb2⟩
      | cons a l t ii k r =>
        rcases hR with hR | ⟨d, o, ys, rfl, hqb, hbl, hA, hE⟩
        · cases hR
        · obtain ⟨ip2, ic2, kp2, kc2, c0, c1, c2, c3, c4, hisl, hk2, hr⟩ := (BEnc.on (Kept.below hb) hE).head (hA.of_heap (hb.block d hbl))
          have g2 : decide (j < n) = true := by simp [Bls.len] at hi1; simp; omega
          have hjn : j < n := by simp [Bls.len] at hi1; omega
          obtain ⟨⟨ha4, ha8, ha9⟩, htr⟩ := htR
          obtain ⟨q1, q2, q3, q4⟩ := hsR
          have e4 : (a == 4) = false := by simpa using ha4
          have e8 : (a == 8) = false := by simpa using ha8
          have e9 : (a == 9) = false := by simpa using ha9
          have hsz2 : ii.size + k.size + r.size + 1 ≤ L.size := hsz
          have hC := shape_any (k.size + 1) _ a l t ii k ip2 ic2 kp2 kc2 wr (Nat.lt_succ_self _) (by omega) q1 q2 q3 hk2
          have hT : blsS.rest (fun k => w.heap.size ≤ k) w1 (some ⟨d, o, none⟩) (j + 1) r := .inr ⟨d, o, ys, rfl, hqb, hbl, hA, hE.tail⟩
          have HT := Lib.hid hT
          have HC := Lib.hid hC
          have HTR := Lib.hid htr
          have HQ4 := Lib.hid q4
          have HG := Lib.hid hi1
          have HGG := Lib.hid hg
          have hbl2 : d < wr.heap.size := Nat.lt_of_lt_of_le hbl hb.size
          have hl : (A.app (.cons a l t ii k .nil)).len = j + 1 := by rw [Bls.len_app, HI.out]; rfl
          have HL := Lib.hid hl
          have HB := Lib.hid hb
          obtain ⟨il, hil⟩ : ∃ il, ii.len = il := ⟨_, rfl⟩
          obtain ⟨kl, hkl⟩ : ∃ kl, k.len = kl := ⟨_, rfl⟩
          rw [hil] at c3 hC
          rw [hkl] at c4 hC
          have HC := Lib.hid hC
          clear hE hA hr hi1 hT hg hC hk2 hisl htr q1 q2 q3 q4 hl ha4 ha8 ha9 hb hil hkl
          go_wp2_with fail
          refine HC.out.mono ?_
          rintro e w6 ⟨rfl, hb6⟩
          have hz6 := hb6.size
          have d0 := (hb6.cell (p := ⟨d, o + j * 5, none⟩) hbl2).trans c0
          have hbl6 : d < w6.heap.size := Nat.lt_of_lt_of_le hbl2 hz6
          have hbn := below_then HB.out hb6
          clear hb6 c0 c1 c2 c3 c4
          go_wp2_with fail
          have HG2 := HG.out
          have HG3 := HGG.out
          simp only [Bls.len] at HG2 HG3
          go_roundg (r.len + 1)
          case measure => omega
          case rel => exact ⟨A.app (.cons a l t ii k .nil), r, by rw [HL.out]; go_num, by rw [HL.out]; omega, by omega, hbn, by rw [HL.out]; exact HT.out, HTR.out, HQ4.out, by omega⟩
  · have g1 : decide ((600 : Int) < (s.size : Int)) = true := decide_eq_true (by omega)
    go_enter Tryz.func7, Tryz.ntmps7
    go_wp2_with fail
    refine (HKN.out _ (Below.refl _ _)).mono ?_
    rintro e w2 ⟨rfl, hb2⟩
    go_wp2_with fail
    go_ret
    exact ⟨rfl, hb2⟩
end Go.Proofs.YthieinfonomeeaaGreatDoor
