/-
  The law FormulaPrecedence, walked: it answers true, and writes nothing that was there. No conditions but those typed in each theorem.
-/
import Derived.Test.YtlkfnpmcihfjmaaDoorFormLaw4
import Derived.Test.YtlkfnpmcihfjmaaDoorMask
namespace Go.Proofs.YtlkfnpmcihfjmaaDoor
open Go.RowKit
set_option linter.unusedVariables false

/-- one value for both texts of a pair, as the walk asks -/
def PairR (s t : ByteArray) (r : Int × Int × Int) : Prop := Ret 9 #[.string s] r ∧ Ret 9 #[.string t] r
theorem name_world {P : Program} {c : Code} {Q : Exit → Act → World → Prop} {a : Act} {w : World} (h : ∀ W, W = w → c.wp P Q a W) : c.wp P Q a w := h w rfl
theorem seven {j : Nat} (h : j < 7) : j = 0 ∨ j = 1 ∨ j = 2 ∨ j = 3 ∨ j = 4 ∨ j = 5 ∨ j = 6 := by omega
set_option maxRecDepth 20000 in
set_option maxHeartbeats 8000000 in
theorem prec_walk (a b c op : Int) (k1 k2 k3 : Nat) (X Y Z PP QQ RR S1 T1 S2 T2 S3 T3 S4 T4 S5 T5 S6 T6 S7 T7 : ByteArray) (r1 r2 r3 r4 r5 r6 r7 : Int × Int × Int) (w : World) (hX : X.size ≤ 10) (hY : Y.size ≤ 10) (hZ : Z.size ≤ 10) (hPP : PP.size ≤ 10) (hQQ : QQ.size ≤ 10) (hRR : RR.size ≤ 10)
    (hk1 : k1 < 2) (hk2 : k2 < 3) (hk3 : k3 < 2) (e1 : bits BinOp.and IntKind.i64 op 1 = (k1 : Int)) (e2 : (bits BinOp.and IntKind.i64 (op / 2) 3).tmod 3 = (k2 : Int)) (e3 : bits BinOp.and IntKind.i64 (op / 8) 1 = (k3 : Int))
    (g1 : (#[.string ⟨#[32, 43, 32]⟩, .string ⟨#[32, 45, 32]⟩] : Array Value)[k1]? = some (.string PP)) (g2 : (#[.string ⟨#[32, 42, 32]⟩, .string ⟨#[32, 109, 111, 100, 32]⟩, .string ⟨#[32, 47, 32]⟩] : Array Value)[k2]? = some (.string QQ)) (g3 : (#[.string ⟨#[32, 61, 32]⟩, .string ⟨#[32, 60, 32]⟩] : Array Value)[k3]? = some (.string RR))
    (hS1 : X ++ PP ++ Y ++ QQ ++ Z = S1) (hT1 : X ++ PP ++ ⟨#[40]⟩ ++ Y ++ QQ ++ Z ++ ⟨#[41]⟩ = T1) (hR1 : PairR S1 T1 r1)
    (hS2 : X ++ QQ ++ Y ++ PP ++ Z = S2) (hT2 : ⟨#[40]⟩ ++ X ++ QQ ++ Y ++ ⟨#[41]⟩ ++ PP ++ Z = T2) (hR2 : PairR S2 T2 r2)
    (hS3 : X ++ PP ++ Y ++ RR ++ Z = S3) (hT3 : ⟨#[40]⟩ ++ X ++ PP ++ Y ++ ⟨#[41]⟩ ++ RR ++ Z = T3) (hR3 : PairR S3 T3 r3)
    (hS4 : X ++ RR ++ Y ++ ⟨#[32, 97, 110, 100, 32]⟩ ++ Z = S4) (hT4 : ⟨#[40]⟩ ++ X ++ RR ++ Y ++ ⟨#[41, 32, 97, 110, 100, 32]⟩ ++ Z = T4) (hR4 : PairR S4 T4 r4)
    (hS5 : X ++ ⟨#[32, 111, 114, 32]⟩ ++ Y ++ ⟨#[32, 97, 110, 100, 32]⟩ ++ Z = S5) (hT5 : X ++ ⟨#[32, 111, 114, 32, 40]⟩ ++ Y ++ ⟨#[32, 97, 110, 100, 32]⟩ ++ Z ++ ⟨#[41]⟩ = T5) (hR5 : PairR S5 T5 r5)
    (hS6 : X ++ PP ++ Y ++ PP ++ Z = S6) (hT6 : ⟨#[40]⟩ ++ X ++ PP ++ Y ++ ⟨#[41]⟩ ++ PP ++ Z = T6) (hR6 : PairR S6 T6 r6)
    (hS7 : ⟨#[45]⟩ ++ X ++ QQ ++ Y = S7) (hT7 : ⟨#[40, 45]⟩ ++ X ++ ⟨#[41]⟩ ++ QQ ++ Y = T7) (hR7 : PairR S7 T7 r7)
    (h1 : ∀ w, Calls Tryd.prog 10 #[.int .i64 a] w fun e w' => e = .returned (.string X) ∧ Below w.heap.size w w')
    (h2 : ∀ w, Calls Tryd.prog 10 #[.int .i64 b] w fun e w' => e = .returned (.string Y) ∧ Below w.heap.size w w')
    (h3 : ∀ w, Calls Tryd.prog 10 #[.int .i64 c] w fun e w' => e = .returned (.string Z) ∧ Below w.heap.size w w')
    : Calls Tryd.prog 5 #[.int .i64 a, .int .i64 b, .int .i64 c, .int .i64 op] w fun e w' => e = .returned (.bool true) ∧ Below w.heap.size w w' := by
  go_enter Tryd.func5, Tryd.ntmps5
  go_wp2_with fail
  refine (h1 _).mono ?_
  rintro e w1 ⟨rfl, hb1⟩
  go_wp2_with fail
  refine (h2 _).mono ?_
  rintro e w2 ⟨rfl, hb2⟩
  go_wp2_with fail
  refine (h3 _).mono ?_
  rintro e w3 ⟨rfl, hb3⟩
  have hb := (hb1.then_ hb2).then_ hb3
  clear hb1 hb2 hb3 h1 h2 h3
  have c1 := (Known.made w3 9 #[.string ⟨#[32, 43, 32]⟩, .string ⟨#[32, 45, 32]⟩]).cell k1
  rw [g1] at c1
  have c2 := (Known.made (w3.alloc (.cells #[.string ⟨#[32, 43, 32]⟩, .string ⟨#[32, 45, 32]⟩] 9)) 9 #[.string ⟨#[32, 42, 32]⟩, .string ⟨#[32, 109, 111, 100, 32]⟩, .string ⟨#[32, 47, 32]⟩]).cell k2
  rw [g2, show (w3.alloc (.cells #[.string ⟨#[32, 43, 32]⟩, .string ⟨#[32, 45, 32]⟩] 9)).heap.size = w3.heap.size + 1 by simp] at c2
  have c3 := (Known.made ((w3.alloc (.cells #[.string ⟨#[32, 43, 32]⟩, .string ⟨#[32, 45, 32]⟩] 9)).alloc (.cells #[.string ⟨#[32, 42, 32]⟩, .string ⟨#[32, 109, 111, 100, 32]⟩, .string ⟨#[32, 47, 32]⟩] 9)) 9 #[.string ⟨#[32, 61, 32]⟩, .string ⟨#[32, 60, 32]⟩]).cell k3
  rw [g3, show ((w3.alloc (.cells #[.string ⟨#[32, 43, 32]⟩, .string ⟨#[32, 45, 32]⟩] 9)).alloc (.cells #[.string ⟨#[32, 42, 32]⟩, .string ⟨#[32, 109, 111, 100, 32]⟩, .string ⟨#[32, 47, 32]⟩] 9)).heap.size = w3.heap.size + 1 + 1 by simp] at c3
  have HR := And.intro hR1 (And.intro hR2 (And.intro hR3 (And.intro hR4 (And.intro hR5 (And.intro hR6 hR7)))))
  have HRR := Lib.hid HR
  clear hR1 hR2 hR3 hR4 hR5 hR6 hR7 HR g1 g2 g3
  go_wp2_with fail
  refine name_world ?_
  intro W hW
  have hs : W.heap.size = w3.heap.size + 1 + 1 + 1 + 1 + 1 + 1 + 1 + 1 + 1 + 1 + 1 := by rw [hW]; simp
  have fam : ∃ (gI : Nat → Nat) (S T : Nat → ByteArray) (r : Nat → Int × Int × Int), ∀ j, j < 7 → W.cell? ⟨w3.heap.size + 1 + 1 + 1 + 1 + 1 + 1 + 1 + 1 + 1 + 1, j, none⟩ = some (.slice (some ⟨gI j, 0, none⟩) 2 2) ∧ gI j < W.heap.size ∧ W.cell? ⟨gI j, 0, none⟩ = some (.string (S j)) ∧ W.cell? ⟨gI j, 1, none⟩ = some (.string (T j)) ∧ PairR (S j) (T j) (r j) := by
    obtain ⟨hR1, hR2, hR3, hR4, hR5, hR6, hR7⟩ := HRR.out
    refine ⟨fun j => [w3.heap.size + 1 + 1 + 1, w3.heap.size + 1 + 1 + 1 + 1, w3.heap.size + 1 + 1 + 1 + 1 + 1, w3.heap.size + 1 + 1 + 1 + 1 + 1 + 1, w3.heap.size + 1 + 1 + 1 + 1 + 1 + 1 + 1, w3.heap.size + 1 + 1 + 1 + 1 + 1 + 1 + 1 + 1, w3.heap.size + 1 + 1 + 1 + 1 + 1 + 1 + 1 + 1 + 1].getD j 0, fun j => [S1, S2, S3, S4, S5, S6, S7].getD j S1, fun j => [T1, T2, T3, T4, T5, T6, T7].getD j T1, fun j => [r1, r2, r3, r4, r5, r6, r7].getD j r1, ?_⟩
    intro j hj
    rw [hs, hW]
    rcases seven hj with rfl | rfl | rfl | rfl | rfl | rfl | rfl
    · exact ⟨by simp [go_sem], by simp only [List.getD_cons_zero]; omega, by simp [go_sem], by simp [go_sem], hR1⟩
    · exact ⟨by simp [go_sem], by simp only [List.getD_cons_succ, List.getD_cons_zero]; omega, by simp [go_sem], by simp [go_sem], hR2⟩
    · exact ⟨by simp [go_sem], by simp only [List.getD_cons_succ, List.getD_cons_zero]; omega, by simp [go_sem], by simp [go_sem], hR3⟩
    · exact ⟨by simp [go_sem], by simp only [List.getD_cons_succ, List.getD_cons_zero]; omega, by simp [go_sem], by simp [go_sem], hR4⟩
    · exact ⟨by simp [go_sem], by simp only [List.getD_cons_succ, List.getD_cons_zero]; omega, by simp [go_sem], by simp [go_sem], hR5⟩
    · exact ⟨by simp [go_sem], by simp only [List.getD_cons_succ, List.getD_cons_zero]; omega, by simp [go_sem], by simp [go_sem], hR6⟩
    · exact ⟨by simp [go_sem], by simp only [List.getD_cons_succ, List.getD_cons_zero]; omega, by simp [go_sem], by simp [go_sem], hR7⟩
  have hbW : Below w.heap.size w W := by
    rw [hW]
    exact ((((((((((hb.then_ (below_new0 _ _)).then_ (below_new0 _ _)).then_ (below_new0 _ _)).then_ (below_new0 _ _)).then_ (below_new0 _ _)).then_ (below_new0 _ _)).then_ (below_new0 _ _)).then_ (below_new0 _ _)).then_ (below_new0 _ _)).then_ (below_new0 _ _)).then_ (below_new0 _ _)
  obtain ⟨gI, S, T, r, fam⟩ := fam
  clear hW c1 c2 c3 HRR hb hS1 hT1 hS2 hT2 hS3 hT3 hS4 hT4 hS5 hT5 hS6 hT6 hS7 hT7 e1 e2 e3
  go_loopg [16, 17, 18, 19, 20] 8 (fun g s16 s17 s18 s19 s20 wr => ∃ i : Nat, i ≤ 7 ∧ 7 - i < g ∧ s16 = .int .i64 i ∧ Below W.heap.size W wr)
  case atStart => exact ⟨0, by omega, by omega, rfl, Below.refl _ _⟩
  case round =>
    obtain ⟨i, hi, hg, rfl, hbr⟩ := hrel
    by_cases hlt : i < 7
    · obtain ⟨f1, f2, f3, f4, f5, f6⟩ := fam i hlt
      unfold Ret at f5 f6
      generalize S i = Si at *
      generalize T i = Ti at *
      generalize gI i = gi at *
      generalize r i = ri at *
      have d0 : wr.cell? ⟨w3.heap.size + 1 + 1 + 1 + 1 + 1 + 1 + 1 + 1 + 1 + 1, i, none⟩ = some (.slice (some ⟨gi, 0, none⟩) 2 2) := (hbr.cell (p := ⟨w3.heap.size + 1 + 1 + 1 + 1 + 1 + 1 + 1 + 1 + 1 + 1, i, none⟩) (by show w3.heap.size + 1 + 1 + 1 + 1 + 1 + 1 + 1 + 1 + 1 + 1 < _; omega)).trans f1
      have d1 : wr.cell? ⟨gi, 0, none⟩ = some (.string Si) := (hbr.cell (p := ⟨gi, 0, none⟩) f2).trans f3
      have d2 : wr.cell? ⟨gi, 1, none⟩ = some (.string Ti) := (hbr.cell (p := ⟨gi, 1, none⟩) f2).trans f4
      have hsr := hbr.size
      have l1 : w3.heap.size + 1 + 1 + 1 + 1 + 1 + 1 + 1 + 1 + 1 + 1 < wr.heap.size := by omega
      have l2 : gi < wr.heap.size := by omega
      clear fam f1 f3 f4
      go_wp2_with fail
      refine (f5 _).mono ?_
      rintro e w4 ⟨rfl, hb4⟩
      have hs4 := hb4.size
      have d3 : w4.cell? ⟨w3.heap.size + 1 + 1 + 1 + 1 + 1 + 1 + 1 + 1 + 1 + 1, i, none⟩ = some (.slice (some ⟨gi, 0, none⟩) 2 2) := (hb4.cell (p := ⟨w3.heap.size + 1 + 1 + 1 + 1 + 1 + 1 + 1 + 1 + 1 + 1, i, none⟩) l1).trans d0
      have d4 : w4.cell? ⟨gi, 1, none⟩ = some (.string Ti) := (hb4.cell (p := ⟨gi, 1, none⟩) l2).trans d2
      have l3 : w3.heap.size + 1 + 1 + 1 + 1 + 1 + 1 + 1 + 1 + 1 + 1 < w4.heap.size := by omega
      have l4 : gi < w4.heap.size := by omega
      have K1 := Known.made w4 23 #[.int .i64 ri.1, .int .i64 ri.2.1]
      have hbn := (hbr.trans (hb4.mono hsr)).trans ((below_new0 w4 (.cells #[.int .i64 ri.1, .int .i64 ri.2.1] 23)).mono (by omega))
      have d5 : (w4.alloc (.cells #[.int .i64 ri.1, .int .i64 ri.2.1] 23)).cell? ⟨w3.heap.size + 1 + 1 + 1 + 1 + 1 + 1 + 1 + 1 + 1 + 1, i, none⟩ = some (.slice (some ⟨gi, 0, none⟩) 2 2) := ((below_new0 w4 _).cell (p := ⟨w3.heap.size + 1 + 1 + 1 + 1 + 1 + 1 + 1 + 1 + 1 + 1, i, none⟩) l3).trans d3
      have d6 : (w4.alloc (.cells #[.int .i64 ri.1, .int .i64 ri.2.1] 23)).cell? ⟨gi, 1, none⟩ = some (.string Ti) := ((below_new0 w4 _).cell (p := ⟨gi, 1, none⟩) l4).trans d4
      clear d0 d1 d2 l1 l2
      go_wp2_with fail
      refine (f6 _).mono ?_
      rintro e w5 ⟨rfl, hb5⟩
      have K1' := (K1.on hb5).alloc (.cells #[.int .i64 ri.1, .int .i64 ri.2.1] 23)
      have K2' := Known.made w5 23 #[.int .i64 ri.1, .int .i64 ri.2.1]
      obtain ⟨k0, k1⟩ := K1'.two
      obtain ⟨k2, k3⟩ := K2'.two
      have m1 := (K1.on hb5).two
      obtain ⟨m1, m2⟩ := m1
      have ml := (K1.on hb5).lt
      have hsn := hbn.size
      replace hbn := (hbn.trans (hb5.mono (by simp at hsn ⊢; omega))).trans ((below_new0 w5 (.cells #[.int .i64 ri.1, .int .i64 ri.2.1] 23)).mono (by have := hb5.size; simp at hsn this; omega))
      clear d3 d4 d5 d6 K1 K1' K2' hb4 hb5 hbr
      go_wp2_with fail
      go_roundg (7 - (i + 1) + 1)
      case measure => omega
      case rel => exact ⟨i + 1, by omega, by omega, by go_num, hbn⟩
    · have hi7 : i = 7 := by omega
      subst hi7
      clear fam
      go_wp2_with fail
      refine (known_any _).mono ?_
      rintro e w6 ⟨rfl, hb6⟩
      go_wp2_with fail
      go_ret
      exact ⟨rfl, (hbW.trans (hbr.mono hbW.size)).then_ hb6⟩
theorem pair_ret {s t : ByteArray} (h : Both s t) (h1 : s.size ≤ 1000000) (h2 : t.size ≤ 1000000) : ∃ r, PairR s t r := by
  obtain ⟨r, a, b⟩ := h
  exact ⟨r, eval_any h1 a, eval_any h2 b⟩
theorem sum_of (k : Nat) (hk : k < 2) : ∃ pa, SumO pa ∧ (#[.string ⟨#[32, 43, 32]⟩, .string ⟨#[32, 45, 32]⟩] : Array Value)[k]? = some (.string (opB pa)) := by
  rcases (show k = 0 ∨ k = 1 by omega) with rfl | rfl
  · exact ⟨[43], .inl rfl, rfl⟩
  · exact ⟨[45], .inr rfl, rfl⟩
theorem term_of (k : Nat) (hk : k < 3) : ∃ pa, TermO pa ∧ (#[.string ⟨#[32, 42, 32]⟩, .string ⟨#[32, 109, 111, 100, 32]⟩, .string ⟨#[32, 47, 32]⟩] : Array Value)[k]? = some (.string (opB pa)) := by
  rcases (show k = 0 ∨ k = 1 ∨ k = 2 by omega) with rfl | rfl | rfl
  · exact ⟨[42], .inl rfl, rfl⟩
  · exact ⟨[109, 111, 100], .inr (.inl rfl), rfl⟩
  · exact ⟨[47], .inr (.inr rfl), rfl⟩
theorem cmp_of (k : Nat) (hk : k < 2) : ∃ pa, CmpO pa ∧ (#[.string ⟨#[32, 61, 32]⟩, .string ⟨#[32, 60, 32]⟩] : Array Value)[k]? = some (.string (opB pa)) := by
  rcases (show k = 0 ∨ k = 1 by omega) with rfl | rfl
  · exact ⟨[61], .inl rfl, rfl⟩
  · exact ⟨[60], .inr rfl, rfl⟩
theorem law_prec (a b c op : Int) (w : World) (_w0 : -9223372036854775808 ≤ a ∧ a ≤ 9223372036854775807) (_w1 : -9223372036854775808 ≤ b ∧ b ≤ 9223372036854775807) (_w2 : -9223372036854775808 ≤ c ∧ c ≤ 9223372036854775807) (_w3 : -9223372036854775808 ≤ op ∧ op ≤ 9223372036854775807) :
    Calls Tryd.prog 5 #[.int .i64 a, .int .i64 b, .int .i64 c, .int .i64 op] w fun e w' => e = .returned (.bool true) ∧ Below w.heap.size w w' := by
  have b1 : bits BinOp.and IntKind.i64 op 1 = op % 2 := mask_i64 1 (by decide) op _ (by decide)
  have b2 : bits BinOp.and IntKind.i64 (op / 2) 3 = op / 2 % 4 := mask_i64 2 (by decide) (op / 2) _ (by decide)
  have b3 : bits BinOp.and IntKind.i64 (op / 8) 1 = op / 8 % 2 := mask_i64 1 (by decide) (op / 8) _ (by decide)
  obtain ⟨k1, hk1⟩ : ∃ k : Nat, op % 2 = k := ⟨(op % 2).toNat, by omega⟩
  obtain ⟨k3, hk3⟩ : ∃ k : Nat, op / 8 % 2 = k := ⟨(op / 8 % 2).toNat, by omega⟩
  have t2 : (op / 2 % 4).tmod 3 = op / 2 % 4 % 3 := Int.tmod_eq_emod_of_nonneg (by omega)
  obtain ⟨k2, hk2⟩ : ∃ k : Nat, op / 2 % 4 % 3 = k := ⟨(op / 2 % 4 % 3).toNat, by omega⟩
  obtain ⟨pa, hp, g1⟩ := sum_of k1 (by omega)
  obtain ⟨qa, hq, g2⟩ := term_of k2 (by omega)
  obtain ⟨ra, hr, g3⟩ := cmp_of k3 (by omega)
  have D : ∀ n : Int, -9999 ≤ n.tmod 10000 ∧ n.tmod 10000 ≤ 9999 := fun n => by
    have h1 := Int.lt_tmod_of_pos n (b := 10000) (by decide)
    have h2 := Int.tmod_lt_of_pos n (b := 10000) (by decide)
    omega
  have h1 := fun w => digits_any a w _w0
  have h2 := fun w => digits_any b w _w1
  have h3 := fun w => digits_any c w _w2
  obtain ⟨x1, x2⟩ := D a
  obtain ⟨y1, y2⟩ := D b
  obtain ⟨z1, z2⟩ := D c
  have sx : (dgB (a.tmod 10000)).size ≤ 7 := (opn_dg _ x1 x2).size
  have sy : (dgB (b.tmod 10000)).size ≤ 7 := (opn_dg _ y1 y2).size
  have sz : (dgB (c.tmod 10000)).size ≤ 7 := (opn_dg _ z1 z2).size
  have so : ∀ l : List UInt8, l.length ≤ 3 → (opB l).size ≤ 5 := fun l hl => by show (32 :: (l ++ [32])).length ≤ 5; simp; omega
  have lp := so _ (op_len (.inl hp))
  have lq := so _ (op_len (.inr (.inl hq)))
  have lr := so _ (op_len (.inr (.inr hr)))
  have B1 := pair1 x1 x2 y1 y2 z1 z2 hp hq
  have B2 := pair2 x1 x2 y1 y2 z1 z2 hp hq
  have B3 := pair3 x1 x2 y1 y2 z1 z2 hp hr
  have B4 := pair4 x1 x2 y1 y2 z1 z2 hr
  have B5 := pair5 x1 x2 y1 y2 z1 z2
  have B6 := pair6 x1 x2 y1 y2 z1 z2 hp
  have B7 := pair7 x1 x2 y1 y2 hq
  change ∀ w, Calls Tryd.prog 10 #[.int .i64 a] w fun e w' => e = .returned (.string (dgB (a.tmod 10000))) ∧ Below w.heap.size w w' at h1
  change ∀ w, Calls Tryd.prog 10 #[.int .i64 b] w fun e w' => e = .returned (.string (dgB (b.tmod 10000))) ∧ Below w.heap.size w w' at h2
  change ∀ w, Calls Tryd.prog 10 #[.int .i64 c] w fun e w' => e = .returned (.string (dgB (c.tmod 10000))) ∧ Below w.heap.size w w' at h3
  generalize dgB (a.tmod 10000) = X at *
  generalize dgB (b.tmod 10000) = Y at *
  generalize dgB (c.tmod 10000) = Z at *
  generalize opB pa = PP at *
  generalize opB qa = QQ at *
  generalize opB ra = RR at *
  have q0 : (⟨#[40]⟩ : ByteArray).size = 1 := rfl
  have q1 : (⟨#[41]⟩ : ByteArray).size = 1 := rfl
  have q2 : (⟨#[45]⟩ : ByteArray).size = 1 := rfl
  have q3 : (⟨#[40, 45]⟩ : ByteArray).size = 2 := rfl
  have q4 : (⟨#[32, 97, 110, 100, 32]⟩ : ByteArray).size = 5 := rfl
  have q5 : (⟨#[41, 32, 97, 110, 100, 32]⟩ : ByteArray).size = 6 := rfl
  have q6 : (⟨#[32, 111, 114, 32]⟩ : ByteArray).size = 4 := rfl
  have q7 : (⟨#[32, 111, 114, 32, 40]⟩ : ByteArray).size = 5 := rfl
  obtain ⟨r1, R1⟩ := pair_ret B1 (by simp only [ByteArray.size_append]; omega) (by simp only [ByteArray.size_append]; omega)
  obtain ⟨r2, R2⟩ := pair_ret B2 (by simp only [ByteArray.size_append]; omega) (by simp only [ByteArray.size_append]; omega)
  obtain ⟨r3, R3⟩ := pair_ret B3 (by simp only [ByteArray.size_append]; omega) (by simp only [ByteArray.size_append]; omega)
  obtain ⟨r4, R4⟩ := pair_ret B4 (by simp only [ByteArray.size_append]; omega) (by simp only [ByteArray.size_append]; omega)
  obtain ⟨r5, R5⟩ := pair_ret B5 (by simp only [ByteArray.size_append]; omega) (by simp only [ByteArray.size_append]; omega)
  obtain ⟨r6, R6⟩ := pair_ret B6 (by simp only [ByteArray.size_append]; omega) (by simp only [ByteArray.size_append]; omega)
  obtain ⟨r7, R7⟩ := pair_ret B7 (by simp only [ByteArray.size_append]; omega) (by simp only [ByteArray.size_append]; omega)
  exact prec_walk a b c op k1 k2 k3 X Y Z PP QQ RR _ _ _ _ _ _ _ _ _ _ _ _ _ _ r1 r2 r3 r4 r5 r6 r7 w (by omega) (by omega) (by omega) (by omega) (by omega) (by omega) (by omega) (by omega) (by omega) (b1.trans hk1) (by rw [b2, t2, hk2]) (b3.trans hk3) g1 g2 g3
    rfl rfl R1 rfl rfl R2 rfl rfl R3 rfl rfl R4 rfl rfl R5 rfl rfl R6 rfl rfl R7 h1 h2 h3
end Go.Proofs.YtlkfnpmcihfjmaaDoor
