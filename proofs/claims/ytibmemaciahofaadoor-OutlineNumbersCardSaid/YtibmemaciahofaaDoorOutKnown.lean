/-
  The sanity check of the laws: the example of the chapter. Condition: the library's table of powers of ten as it is laid.
-/
import Derived.Test.YtibmemaciahofaaDoorContW
import Derived.Test.YtibmemaciahofaaDoorNoteW
namespace Go.Proofs.YtibmemaciahofaaDoor
open Go.RowKit Doc Cont Note
set_option linter.unusedVariables false

/-- an element of text, as a list -/
def oneText (s : ByteArray) : Ins := .cons 1 s 0 ⟨#[]⟩ ⟨#[]⟩ .nil .nil
/-- a heading in memory -/
def HeadIn (w : World) (B : Nat) (s : ByteArray) (v : Value) : Prop := ∃ g, v = .slice (some ⟨g, 0, none⟩) 1 1 ∧ B ≤ g ∧ Known w g 46 #[.int .i64 1, .string s, .int .i64 0, .string ⟨#[]⟩, .string ⟨#[]⟩, .slice none 0 0]
theorem HeadIn.below {w w' : World} {B : Nat} {s : ByteArray} {v : Value} (h : HeadIn w B s v) (hb : Below w.heap.size w w') : HeadIn w' B s v := by
  obtain ⟨g, h1, h2, h3⟩ := h; exact ⟨g, h1, h2, h3.on hb⟩
theorem HeadIn.sl {w : World} {B : Nat} {s : ByteArray} {v : Value} (h : HeadIn w B s v) : insS.sl (fun k => B ≤ k) w v (oneText s) := by
  obtain ⟨g, rfl, h2, h3⟩ := h
  refine ⟨_, 1, rfl, Nat.le_refl _, by decide, (fun h => by cases h), .inr ⟨g, 0, [.int .i64 1, .string s, .int .i64 0, .string ⟨#[]⟩, .string ⟨#[]⟩, .slice none 0 0], rfl, h2, h3.lt, fun i u hu => ?_, _, [], rfl, Sl.empty, rfl⟩⟩
  rw [Nat.zero_add, h3.cell i]
  simpa using hu
set_option maxRecDepth 10000 in
set_option maxHeartbeats 1000000 in
theorem heading_any (l : Int) (s : ByteArray) (w : World) :
    Calls Tryd.prog 24 #[.int .i64 l, .string s] w fun e w' => ∃ g, e = .returned (.agg #[.int .i64 1, .int .i64 l, .string ⟨#[]⟩, .slice (some ⟨g, 0, none⟩) 1 1, .slice none 0 0]) ∧ Below w.heap.size w w' ∧ HeadIn w' w.heap.size s (.slice (some ⟨g, 0, none⟩) 1 1) := by
  go_enter Tryd.func24, Tryd.ntmps24
  go_wp2_with fail
  exact bodyPost_ret (v := .agg #[.int .i64 1, .int .i64 l, .string ⟨#[]⟩, .slice (some ⟨w.heap.size + 1, 0, none⟩) 1 1, .slice none 0 0]) (by simp [results, Tryd.results24, go_sem]) rfl
    ⟨_, rfl, (below_new0 _ _).trans ((below_new0 _ _).mono (by simp)), w.heap.size + 1, rfl, by omega, by have := Known.made (w.alloc (.cells #[.int .i64 1, .int .i64 l, .string ⟨#[]⟩, .slice (some ⟨w.heap.size + 1, 0, none⟩) 1 1, .slice none 0 0] 50)) 46 #[.int .i64 1, .string s, .int .i64 0, .string ⟨#[]⟩, .string ⟨#[]⟩, .slice none 0 0]; rwa [World.size_alloc] at this⟩
theorem d1 : Lib.decDigits 1 = [49] := by rw [decDigits_step]; rfl
theorem d2 : Lib.decDigits 2 = [50] := by rw [decDigits_step]; rfl
theorem kn1 : ent [] 2 [97] = ⟨2, ⟨#[49]⟩, ⟨#[97]⟩, ⟨#[97]⟩⟩ := by
  show (⟨2, ⟨([] ++ Lib.decDigits 1).toArray⟩, ⟨#[97]⟩, ⟨(cand [97] 1).toArray⟩⟩ : Ent) = _
  rw [d1]; rfl
theorem kn2 : ent [⟨2, ⟨#[49]⟩, ⟨#[97]⟩, ⟨#[97]⟩⟩] 4 [97] = ⟨4, ⟨#[49, 46, 49]⟩, ⟨#[97]⟩, ⟨#[97, 95, 50]⟩⟩ := by
  show (⟨4, ⟨([49] ++ [46] ++ Lib.decDigits 1).toArray⟩, ⟨#[97]⟩, ⟨([97] ++ [95] ++ Lib.decDigits 2).toArray⟩⟩ : Ent) = _
  rw [d1, d2]; rfl
theorem kn3 : ent [⟨2, ⟨#[49]⟩, ⟨#[97]⟩, ⟨#[97]⟩⟩, ⟨4, ⟨#[49, 46, 49]⟩, ⟨#[97]⟩, ⟨#[97, 95, 50]⟩⟩] 3 [97, 32, 50] = ⟨3, ⟨#[49, 46, 50]⟩, ⟨#[97, 32, 50]⟩, ⟨#[97, 95, 50, 95, 50]⟩⟩ := by
  show (⟨3, ⟨([49] ++ [46] ++ Lib.decDigits 2).toArray⟩, ⟨#[97, 32, 50]⟩, ⟨([97, 95, 50] ++ [95] ++ Lib.decDigits 2).toArray⟩⟩ : Ent) = _
  rw [d2]; rfl
theorem kn4 : ent [⟨2, ⟨#[49]⟩, ⟨#[97]⟩, ⟨#[97]⟩⟩, ⟨4, ⟨#[49, 46, 49]⟩, ⟨#[97]⟩, ⟨#[97, 95, 50]⟩⟩, ⟨3, ⟨#[49, 46, 50]⟩, ⟨#[97, 32, 50]⟩, ⟨#[97, 95, 50, 95, 50]⟩⟩] 2 [98] = ⟨2, ⟨#[50]⟩, ⟨#[98]⟩, ⟨#[98]⟩⟩ := by
  show (⟨2, ⟨([] ++ Lib.decDigits 2).toArray⟩, ⟨#[98]⟩, ⟨(cand [98] 1).toArray⟩⟩ : Ent) = _
  rw [d2]; rfl
def knB : Bls := .cons 1 2 ⟨#[]⟩ (oneText ⟨#[97]⟩) .nil (.cons 1 4 ⟨#[]⟩ (oneText ⟨#[97]⟩) .nil (.cons 1 3 ⟨#[]⟩ (oneText ⟨#[97, 32, 50]⟩) .nil (.cons 1 2 ⟨#[]⟩ (oneText ⟨#[98]⟩) .nil .nil)))
def knE : List Ent := [⟨2, ⟨#[49]⟩, ⟨#[97]⟩, ⟨#[97]⟩⟩, ⟨4, ⟨#[49, 46, 49]⟩, ⟨#[97]⟩, ⟨#[97, 95, 50]⟩⟩, ⟨3, ⟨#[49, 46, 50]⟩, ⟨#[97, 32, 50]⟩, ⟨#[97, 95, 50, 95, 50]⟩⟩, ⟨2, ⟨#[50]⟩, ⟨#[98]⟩, ⟨#[98]⟩⟩]
theorem kn_cont : cont knB = knE := by
  unfold knB cont
  simp only [contF, if_true, oneText, Ins.plain, List.append_nil, List.nil_append, List.cons_append]
  rw [kn1, kn2, kn3, kn4]
  rfl
def knM : Bls := .cons 2 0 ⟨#[]⟩ (.cons 5 ⟨#[110]⟩ 0 ⟨#[]⟩ ⟨#[]⟩ .nil (.cons 5 ⟨#[110]⟩ 0 ⟨#[]⟩ ⟨#[]⟩ .nil .nil)) .nil .nil
theorem kn_notes : notes knM.marks = [⟨⟨#[110]⟩, .nil, [1, 2]⟩] := by rfl
theorem kn_anc : Anc.anchor [97, 32, 98] = [97, 95, 98] := by decide
theorem kn_sl {w : World} {B : Nat} {v1 v2 v3 v4 : Value} {g : Nat} (h1 : HeadIn w B ⟨#[97]⟩ v1) (h2 : HeadIn w B ⟨#[97]⟩ v2) (h3 : HeadIn w B ⟨#[97, 32, 50]⟩ v3) (h4 : HeadIn w B ⟨#[98]⟩ v4)
    (K : Known w g 50 #[.int .i64 1, .int .i64 2, .string ⟨#[]⟩, v1, .slice none 0 0, .int .i64 1, .int .i64 4, .string ⟨#[]⟩, v2, .slice none 0 0, .int .i64 1, .int .i64 3, .string ⟨#[]⟩, v3, .slice none 0 0, .int .i64 1, .int .i64 2, .string ⟨#[]⟩, v4, .slice none 0 0]) (hg : B ≤ g) :
    blsS.sl (fun k => B ≤ k) w (.slice (some ⟨g, 0, none⟩) 4 4) knB := by
  refine ⟨_, 4, rfl, Nat.le_refl _, by decide, (fun h => by cases h), .inr ⟨g, 0, _, rfl, hg, K.lt, fun i u hu => ?_, v1, _, _, rfl, h1.sl, Sl.empty, v2, _, _, rfl, h2.sl, Sl.empty, v3, _, _, rfl, h3.sl, Sl.empty, v4, _, [], rfl, h4.sl, Sl.empty, rfl⟩⟩
  rw [Nat.zero_add, K.cell i]
  simpa using hu
theorem km_sl {w : World} {g h : Nat} (K : Known w g 50 #[.int .i64 2, .int .i64 0, .string ⟨#[]⟩, .slice (some ⟨h, 0, none⟩) 2 2, .slice none 0 0])
    (K2 : Known w h 46 #[.int .i64 5, .string ⟨#[110]⟩, .int .i64 0, .string ⟨#[]⟩, .string ⟨#[]⟩, .slice none 0 0, .int .i64 5, .string ⟨#[110]⟩, .int .i64 0, .string ⟨#[]⟩, .string ⟨#[]⟩, .slice none 0 0]) :
    blsS.sl (fun _ => True) w (.slice (some ⟨g, 0, none⟩) 1 1) knM := by
  have hi : insS.sl (fun _ => True) w (.slice (some ⟨h, 0, none⟩) 2 2) (.cons 5 ⟨#[110]⟩ 0 ⟨#[]⟩ ⟨#[]⟩ .nil (.cons 5 ⟨#[110]⟩ 0 ⟨#[]⟩ ⟨#[]⟩ .nil .nil)) := by
    refine ⟨_, 2, rfl, Nat.le_refl _, by decide, (fun h => by cases h), .inr ⟨h, 0, _, rfl, trivial, K2.lt, fun i u hu => ?_, .slice none 0 0, _, rfl, Sl.empty, .slice none 0 0, [], rfl, Sl.empty, rfl⟩⟩
    rw [Nat.zero_add, K2.cell i]
    simpa using hu
  refine ⟨_, 1, rfl, Nat.le_refl _, by decide, (fun h => by cases h), .inr ⟨g, 0, _, rfl, trivial, K.lt, fun i u hu => ?_, _, .slice none 0 0, [], rfl, hi, Sl.empty, rfl⟩⟩
  rw [Nat.zero_add, K.cell i]
  simpa using hu

set_option maxRecDepth 20000 in
set_option maxHeartbeats 4000000 in
theorem known_any (w : World) (ht : Tab w) : Calls Tryd.prog 11 #[] w fun e w' => e = .returned (.bool true) ∧ Below w.heap.size w w' := by
  have HT := Lib.hid ht
  clear ht
  go_enter Tryd.func11, Tryd.ntmps11
  go_wp2_with fail
  refine (heading_any _ _ _).mono ?_
  rintro e w1 ⟨g1, rfl, hb1, h1⟩
  have H1 := Lib.hid h1
  clear h1
  go_wp2_with fail
  refine (heading_any _ _ _).mono ?_
  rintro e w2 ⟨g2, rfl, hb2, h2⟩
  have H2 := Lib.hid h2
  clear h2
  go_wp2_with fail
  refine (heading_any _ _ _).mono ?_
  rintro e w3 ⟨g3, rfl, hb3, h3⟩
  have H3 := Lib.hid h3
  clear h3
  go_wp2_with fail
  refine (heading_any _ _ _).mono ?_
  rintro e w4 ⟨g4, rfl, hb4, h4⟩
  have z1 := hb1.size
  have z2 := hb2.size
  have z3 := hb3.size
  have z4 := hb4.size
  have hB : Below w.heap.size w w4 := below_then (below_then (below_then hb1 hb2) hb3) hb4
  have K1 : HeadIn w4 w.heap.size ⟨#[97]⟩ (.slice (some ⟨g1, 0, none⟩) 1 1) := ((H1.out.below hb2).below hb3).below hb4
  have K2 : HeadIn w4 w.heap.size ⟨#[97]⟩ (.slice (some ⟨g2, 0, none⟩) 1 1) := by obtain ⟨g, x1, x2, x3⟩ := (H2.out.below hb3).below hb4; exact ⟨g, x1, by omega, x3⟩
  have K3 : HeadIn w4 w.heap.size ⟨#[97, 32, 50]⟩ (.slice (some ⟨g3, 0, none⟩) 1 1) := by obtain ⟨g, x1, x2, x3⟩ := H3.out.below hb4; exact ⟨g, x1, by omega, x3⟩
  have K4 : HeadIn w4 w.heap.size ⟨#[98]⟩ (.slice (some ⟨g4, 0, none⟩) 1 1) := by obtain ⟨g, x1, x2, x3⟩ := h4; exact ⟨g, x1, by omega, x3⟩
  have hL : ∀ O : Array Value, O = #[.int .i64 1, .int .i64 2, .string ⟨#[]⟩, .slice (some ⟨g1, 0, none⟩) 1 1, .slice none 0 0, .int .i64 1, .int .i64 4, .string ⟨#[]⟩, .slice (some ⟨g2, 0, none⟩) 1 1, .slice none 0 0, .int .i64 1, .int .i64 3, .string ⟨#[]⟩, .slice (some ⟨g3, 0, none⟩) 1 1, .slice none 0 0, .int .i64 1, .int .i64 2, .string ⟨#[]⟩, .slice (some ⟨g4, 0, none⟩) 1 1, .slice none 0 0] → 
      Calls Tryd.prog 16 #[.slice (some ⟨w4.heap.size, 0, none⟩) 4 4] (w4.alloc (.cells O 50)) fun e w' => ∃ p c, e = .returned (.slice p 4 c) ∧ Below (w4.alloc (.cells O 50)).heap.size (w4.alloc (.cells O 50)) w' ∧ Ents w' p knE := by
    rintro O rfl
    have hk := kn_sl (K1.below (below_new0 w4 _)) (K2.below (below_new0 w4 _)) (K3.below (below_new0 w4 _)) (K4.below (below_new0 w4 _)) (Known.made w4 50 _) (by omega)
    have := cont_any _ knB _ 4 _ (by decide) (by decide) hk (HT.out.on (below_then hB (below_new0 w4 _)))
    rw [kn_cont] at this
    exact this.mono fun e w' ⟨p, c, h1, h2, h3⟩ => ⟨p, c, h1, h2, (Ents.of h3).1⟩
  have HL := Lib.hid hL
  have HBB := Lib.hid hB
  clear h4 K1 K2 K3 K4 hL hb1 hb2 hb3 hb4 hB
  go_wp2_with fail
  refine (HL.out _ rfl).mono ?_
  rintro e w5 ⟨p5, c5, rfl, hb5, hE⟩
  have HE := Lib.hid hE
  clear hE
  have hN : ∀ O1 O2 : Array Value, O1 = #[.int .i64 5, .string ⟨#[110]⟩, .int .i64 0, .string ⟨#[]⟩, .string ⟨#[]⟩, .slice none 0 0, .int .i64 5, .string ⟨#[110]⟩, .int .i64 0, .string ⟨#[]⟩, .string ⟨#[]⟩, .slice none 0 0] → O2 = #[.int .i64 2, .int .i64 0, .string ⟨#[]⟩, .slice (some ⟨w5.heap.size, 0, none⟩) 2 2, .slice none 0 0] →
      Calls Tryd.prog 22 #[.slice (some ⟨w5.heap.size + 1, 0, none⟩) 1 1] ((w5.alloc (.cells O1 46)).alloc (.cells O2 50)) fun e w' => ∃ r c pu cu, e = .returned (.slice (some ⟨r, 0, none⟩) 1 c) ∧ Below w5.heap.size w5 w' ∧ w'.cell? ⟨r, 2, none⟩ = some (.slice pu 2 cu) := by
    rintro O1 O2 rfl rfl
    have k1 := Known.made (w5.alloc (.cells #[.int .i64 5, .string ⟨#[110]⟩, .int .i64 0, .string ⟨#[]⟩, .string ⟨#[]⟩, .slice none 0 0, .int .i64 5, .string ⟨#[110]⟩, .int .i64 0, .string ⟨#[]⟩, .string ⟨#[]⟩, .slice none 0 0] 46)) 50 #[.int .i64 2, .int .i64 0, .string ⟨#[]⟩, .slice (some ⟨w5.heap.size, 0, none⟩) 2 2, .slice none 0 0]
    rw [World.size_alloc] at k1
    have hk := km_sl k1 ((Known.made w5 46 _).alloc _)
    have := notes_any _ knM _ 1 _ (by decide) hk (Bls.fit_bulk _ (by decide))
    rw [kn_notes] at this
    refine this.mono fun e w' ⟨v, I, U, B, h1, h2, h3⟩ => ?_
    obtain ⟨r, c, rfl⟩ := h3.form (by decide)
    obtain ⟨_, _, x2, _⟩ := h3.cells (m := 0) (by decide)
    obtain ⟨pu, cu, hU⟩ : ∃ pu cu, U 0 = .slice pu 2 cu := by
      rcases (h3.use 0 (by decide)).2 with ⟨_, h0⟩ | ⟨g, cap, cur, h0, _⟩
      · cases h0
      · exact ⟨_, cap, h0⟩
    rw [hU] at x2
    exact ⟨r, c, pu, cu, h1, below_then ((below_new0 _ _).trans ((below_new0 _ _).mono (by simp))) h2, x2⟩
  have HN := Lib.hid hN
  clear hN
  go_wp2_with fail
  refine (HN.out _ _ rfl rfl).mono ?_
  rintro e w6 ⟨r6, c6, pu, cu, rfl, hb6, hu⟩
  have hE6 := HE.out.below hb6
  obtain ⟨b, o, rfl, hbl, -, a1, -, -⟩ := hE6.at (k := 1) (by decide)
  obtain ⟨b', o', he, -, -, a2, -, a3⟩ := hE6.at (k := 2) (by decide)
  injection he with he
  injection he with e1 e2
  subst e1 e2
  obtain ⟨b', o', he, -, -, a4, -, -⟩ := hE6.at (k := 3) (by decide)
  injection he with he
  injection he with e1 e2
  subst e1 e2
  have hA : ∀ W, Calls Tryd.prog 9 #[.string ⟨#[97, 32, 98]⟩] W fun e w' => e = .returned (.string ⟨#[97, 95, 98]⟩) ∧ Below W.heap.size W w' := fun W => by
    have := anchor_any ⟨#[97, 32, 98]⟩ W (by decide)
    rwa [show (⟨#[97, 32, 98]⟩ : ByteArray).data.toList = [97, 32, 98] from rfl, kn_anc] at this
  change w6.cell? ⟨b, o + 1 * 4 + 1, none⟩ = some (.string ⟨#[49, 46, 49]⟩) at a1
  change w6.cell? ⟨b, o + 2 * 4 + 1, none⟩ = some (.string ⟨#[49, 46, 50]⟩) at a2
  change w6.cell? ⟨b, o + 2 * 4 + 3, none⟩ = some (.string ⟨#[97, 95, 50, 95, 50]⟩) at a3
  change w6.cell? ⟨b, o + 3 * 4 + 1, none⟩ = some (.string ⟨#[50]⟩) at a4
  simp only [Nat.one_mul, Nat.reduceMul] at a1 a2 a3 a4
  have HB6 := Lib.hid (below_then (below_then HBB.out (below_then (below_new0 w4 _) hb5)) hb6)
  have HA := Lib.hid hA
  clear hE6 hA hb5 hb6 HE HL
  go_wp2_with fail
  refine (HA.out _).mono ?_
  rintro e w7 ⟨rfl, hb7⟩
  go_wp2_with fail
  go_ret
  exact ⟨rfl, below_then HB6.out hb7⟩
end Go.Proofs.YtibmemaciahofaaDoor
