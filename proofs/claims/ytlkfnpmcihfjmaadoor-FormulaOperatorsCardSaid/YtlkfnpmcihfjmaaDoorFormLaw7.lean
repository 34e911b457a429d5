/-
  The law FormulaOperators, walked: it answers true, and writes nothing that was there. No conditions but those typed in each theorem.
-/
import Derived.Test.YtlkfnpmcihfjmaaDoorFormLaw6
import Derived.Deep.RegionWith
import Derived.Deep.Cut
namespace Go.Proofs.YtlkfnpmcihfjmaaDoor
open Go.RowKit
set_option linter.unusedVariables false

theorem kd1 {V w' : World} {cs : Array Value} {t : TypeId} (hb : Below ((V.alloc (.cells cs t)).drew).heap.size ((V.alloc (.cells cs t)).drew) w') : Known w' V.heap.size t cs := ((Known.made V t cs).on (Below.refl _ _).drew).on hb
theorem kd2 {V w' : World} {cs : Array Value} {t : TypeId} {o : Obj} (hb : Below (((V.alloc (.cells cs t)).alloc o).drew).heap.size (((V.alloc (.cells cs t)).alloc o).drew) w') : Known w' V.heap.size t cs := (((Known.made V t cs).alloc o).on (Below.refl _ _).drew).on hb
theorem ka1 {V w' : World} {cs : Array Value} {t : TypeId} (hb : Below (V.alloc (.cells cs t)).heap.size (V.alloc (.cells cs t)) w') : Known w' V.heap.size t cs := (Known.made V t cs).on hb
theorem ka2 {V w' : World} {cs : Array Value} {t : TypeId} {o : Obj} (hb : Below ((V.alloc (.cells cs t)).alloc o).heap.size ((V.alloc (.cells cs t)).alloc o) w') : Known w' V.heap.size t cs := ((Known.made V t cs).alloc o).on hb
theorem alloc_size1 (w : World) (o : Obj) : (w.alloc o).heap.size = w.heap.size + 1 := by simp
theorem drew_size1 (w : World) : w.drew.heap.size = w.heap.size := rfl
/-- a region ahead of a cut: what the cut asks for is all that counts -/
theorem region_gen {P : Program} {c : Code} {D J K' : Act → World → Prop} {Q' : Exit → Act → World → Prop} {a : Act} {w : World} (hJ : ∀ a w, D a w → J a w) (hK : ∀ a w, Met J a w → K' a w)
    (h : ∀ J K' : Act → World → Prop, (∀ a w, D a w → J a w) → (∀ a w, Met J a w → K' a w) → c.wp P (Exit.then K' (fun _ _ _ => False)) a w) : c.wp P (Exit.then K' Q') a w :=
  Code.wp_mono (fun e a w he => by
    cases e with
    | normal => exact hK a w (Met.intro (hJ a w he))
    | _ => exact he.elim) (h D D (fun _ _ hd => hd) (fun _ _ hd => hd))
/-- what holds of a world throughout the region: the two numbers, nothing old written -/
structure OpG (w : World) (A B : Int) (V : World) : Prop where
  x : Known V w.heap.size 23 #[.int .i64 A, .int .i64 1]
  y : Known V (w.heap.size + 1) 23 #[.int .i64 B, .int .i64 1]
  b : Below w.heap.size w V
theorem OpG.on {w : World} {A B : Int} {V V' : World} (h : OpG w A B V) (hb : Below V.heap.size V V') : OpG w A B V' := ⟨h.x.on hb, h.y.on hb, h.b.then_ hb⟩
theorem OpG.alloc {w : World} {A B : Int} {V : World} (h : OpG w A B V) (o : Obj) : OpG w A B (V.alloc o) := h.on (below_new0 _ _)
theorem OpG.put {w : World} {A B : Int} {V : World} (h : OpG w A B V) {p : Addr} (hp : w.heap.size + 1 < p.block) (u : Value) : OpG w A B (V.setCell p u) := ⟨h.x.far (by omega) u, h.y.far (by omega) u, h.b.setCell (by omega) u⟩
theorem OpG.start (w : World) (A B : Int) : OpG w A B ((w.alloc (.cells #[.int .i64 A, .int .i64 1] 23)).alloc (.cells #[.int .i64 B, .int .i64 1] 23)).drew :=
  ⟨((Known.made w _ _).alloc _).on (Below.refl _ _).drew, (Known.made2 w _ _ _).on (Below.refl _ _).drew, ((below_new0 w _).then_ (below_new0 _ _)).drew⟩
set_option maxRecDepth 20000 in
set_option maxHeartbeats 40000000 in
theorem oper_walk (a b op A B : Int) (k : Nat) (X Y O : ByteArray) (R : Int × Int × Int) (w : World) (hA : a.tmod 10000 = A) (hB : b.tmod 10000 = B) (hk : k < 8) (e1 : bits BinOp.and IntKind.i64 op 7 = (k : Int))
    (gk : ∀ h : k < ([.string ⟨#[43]⟩, .string ⟨#[45]⟩, .string ⟨#[42]⟩, .string ⟨#[47]⟩, .string ⟨#[32, 109, 111, 100, 32]⟩, .string ⟨#[61]⟩, .string ⟨#[60]⟩, .string ⟨#[62, 61]⟩] : List Value).length, ([.string ⟨#[43]⟩, .string ⟨#[45]⟩, .string ⟨#[42]⟩, .string ⟨#[47]⟩, .string ⟨#[32, 109, 111, 100, 32]⟩, .string ⟨#[61]⟩, .string ⟨#[60]⟩, .string ⟨#[62, 61]⟩] : List Value)[k]'h = .string O) (hX : X.size ≤ 10) (hY : Y.size ≤ 10) (hO : O.size ≤ 10) (i1 : I64 A) (i2 : I64 B) (iu : I64 1) (hR : R = opR k A B)
    (h1 : ∀ w, Calls Tryd.prog 10 #[.int .i64 a] w fun e w' => e = .returned (.string X) ∧ Below w.heap.size w w')
    (h2 : ∀ w, Calls Tryd.prog 10 #[.int .i64 b] w fun e w' => e = .returned (.string Y) ∧ Below w.heap.size w w')
    (hE : ∀ w, Calls Tryd.prog 9 #[.string (X ++ O ++ Y)] w fun e w' => e = .returned (.tuple #[.agg #[.int .i64 R.1, .int .i64 R.2.1], .int .i64 R.2.2]) ∧ Below w.heap.size w w') :
    Calls Tryd.prog 3 #[.int .i64 a, .int .i64 b, .int .i64 op] w fun e w' => e = .returned (.bool true) ∧ Below w.heap.size w w' := by
  go_enter Tryd.func3, Tryd.ntmps3
  have hO8 : ∀ {w : World} {g : Nat} {t : TypeId}, Known w g t #[.string ⟨#[43]⟩, .string ⟨#[45]⟩, .string ⟨#[42]⟩, .string ⟨#[47]⟩, .string ⟨#[32, 109, 111, 100, 32]⟩, .string ⟨#[61]⟩, .string ⟨#[60]⟩, .string ⟨#[62, 61]⟩] → w.cell? ⟨g, k, none⟩ = some (.string O) := fun h => (h.cell k).trans (by have := gk hk; simp only [List.getElem?_toArray]; exact List.getElem?_eq_some_iff.2 ⟨hk, this⟩)
  go_upto_region 3 with fail
  go_cut [10, 11] from 24 (fun s10 s11 wc => ∃ g, s10 = .pointer (some ⟨g, 0, none⟩) ∧ s11 = .int .i64 R.2.2 ∧ Known wc g 23 #[.int .i64 R.1, .int .i64 R.2.1] ∧ OpG w A B wc)
  case first =>
    clear hR i1 i2 iu
    have G0 := OpG.start w A B
    rename_i Q0 K0 hK0 J K' hJ hK'
    refine region_gen hJ hK' ?_
    clear hJ hK' hK0
    intro J K' hJ hK'
    have hk0 : (0 : Int) ≤ (k : Int) := by omega
    have hk8 : (k : Int) < 8 := by omega
    have hs1 : ¬ 9223372036854775807 < X.size + O.size := by omega
    have hs2 : ¬ 9223372036854775807 < X.size + O.size + Y.size := by omega
    clear hX hY hO hA hB e1
    go_region_with (first
      | (go_at_call 10; (with_reducible refine (h1 _).mono ?_); rintro e wa ⟨rfl, hba⟩; (first | have ga := G0.on hba | have ga := (G0.alloc _).on hba | have ga := ((G0.alloc _).alloc _).on hba); have sa := ga.y.lt; (first | ((have aL : Known wa _ _ #[.string ⟨#[43]⟩, .string ⟨#[45]⟩, .string ⟨#[42]⟩, .string ⟨#[47]⟩, .string ⟨#[32, 109, 111, 100, 32]⟩, .string ⟨#[61]⟩, .string ⟨#[60]⟩, .string ⟨#[62, 61]⟩] := kd1 hba); (try rw [drew_size1] at aL); (repeat rw [alloc_size1] at aL); have aLx := hO8 aL; have aLl := aL.lt) | ((have aL : Known wa _ _ #[.string ⟨#[43]⟩, .string ⟨#[45]⟩, .string ⟨#[42]⟩, .string ⟨#[47]⟩, .string ⟨#[32, 109, 111, 100, 32]⟩, .string ⟨#[61]⟩, .string ⟨#[60]⟩, .string ⟨#[62, 61]⟩] := kd2 hba); (try rw [drew_size1] at aL); (repeat rw [alloc_size1] at aL); have aLx := hO8 aL; have aLl := aL.lt) | skip); (first | ((have aN : Known wa _ 23 #[.int .i64 0, .int .i64 0] := kd1 hba); (try rw [drew_size1] at aN); (repeat rw [alloc_size1] at aN); obtain ⟨aNx, aNy⟩ := aN.two; have aNf := aN.free 0; have aNg := aN.free 1; have aNl := aN.lt) | ((have aN : Known wa _ 23 #[.int .i64 0, .int .i64 0] := kd2 hba); (try rw [drew_size1] at aN); (repeat rw [alloc_size1] at aN); obtain ⟨aNx, aNy⟩ := aN.two; have aNf := aN.free 0; have aNg := aN.free 1; have aNl := aN.lt) | skip))
      | (go_at_call 10; (with_reducible refine (h2 _).mono ?_); rintro e wb ⟨rfl, hbb⟩; (first | have gb := ga.on hbb | have gb := (ga.alloc _).on hbb | have gb := ((ga.alloc _).alloc _).on hbb); have sb := gb.y.lt; (first | ((have bL := aL.on hbb); (try rw [drew_size1] at bL); (repeat rw [alloc_size1] at bL); have bLx := hO8 bL; have bLl := bL.lt) | ((have bL := (aL.alloc _).on hbb); (try rw [drew_size1] at bL); (repeat rw [alloc_size1] at bL); have bLx := hO8 bL; have bLl := bL.lt) | ((have bL := ((aL.alloc _).alloc _).on hbb); (try rw [drew_size1] at bL); (repeat rw [alloc_size1] at bL); have bLx := hO8 bL; have bLl := bL.lt) | ((have bL : Known wb _ _ #[.string ⟨#[43]⟩, .string ⟨#[45]⟩, .string ⟨#[42]⟩, .string ⟨#[47]⟩, .string ⟨#[32, 109, 111, 100, 32]⟩, .string ⟨#[61]⟩, .string ⟨#[60]⟩, .string ⟨#[62, 61]⟩] := ka1 hbb); (try rw [drew_size1] at bL); (repeat rw [alloc_size1] at bL); have bLx := hO8 bL; have bLl := bL.lt) | ((have bL : Known wb _ _ #[.string ⟨#[43]⟩, .string ⟨#[45]⟩, .string ⟨#[42]⟩, .string ⟨#[47]⟩, .string ⟨#[32, 109, 111, 100, 32]⟩, .string ⟨#[61]⟩, .string ⟨#[60]⟩, .string ⟨#[62, 61]⟩] := ka2 hbb); (try rw [drew_size1] at bL); (repeat rw [alloc_size1] at bL); have bLx := hO8 bL; have bLl := bL.lt) | skip); (try clear aLx aLl); (try clear aL); (first | ((have bN := aN.on hbb); (try rw [drew_size1] at bN); (repeat rw [alloc_size1] at bN); obtain ⟨bNx, bNy⟩ := bN.two; have bNf := bN.free 0; have bNg := bN.free 1; have bNl := bN.lt) | ((have bN := (aN.alloc _).on hbb); (try rw [drew_size1] at bN); (repeat rw [alloc_size1] at bN); obtain ⟨bNx, bNy⟩ := bN.two; have bNf := bN.free 0; have bNg := bN.free 1; have bNl := bN.lt) | ((have bN := ((aN.alloc _).alloc _).on hbb); (try rw [drew_size1] at bN); (repeat rw [alloc_size1] at bN); obtain ⟨bNx, bNy⟩ := bN.two; have bNf := bN.free 0; have bNg := bN.free 1; have bNl := bN.lt) | ((have bN : Known wb _ 23 #[.int .i64 0, .int .i64 0] := ka1 hbb); (try rw [drew_size1] at bN); (repeat rw [alloc_size1] at bN); obtain ⟨bNx, bNy⟩ := bN.two; have bNf := bN.free 0; have bNg := bN.free 1; have bNl := bN.lt) | ((have bN : Known wb _ 23 #[.int .i64 0, .int .i64 0] := ka2 hbb); (try rw [drew_size1] at bN); (repeat rw [alloc_size1] at bN); obtain ⟨bNx, bNy⟩ := bN.two; have bNf := bN.free 0; have bNg := bN.free 1; have bNl := bN.lt) | skip); (try clear aNx aNl); (try clear aNy aNf aNg); (try clear aN))
      | (go_at_call 9; refine (hE _).mono ?_; rintro e we ⟨rfl, hbe⟩; (first | have ge := gb.on hbe | have ge := (gb.alloc _).on hbe | have ge := ((gb.alloc _).alloc _).on hbe); have se := ge.y.lt; (first | ((have eL := bL.on hbe); (try rw [drew_size1] at eL); (repeat rw [alloc_size1] at eL); have eLx := hO8 eL; have eLl := eL.lt) | ((have eL := (bL.alloc _).on hbe); (try rw [drew_size1] at eL); (repeat rw [alloc_size1] at eL); have eLx := hO8 eL; have eLl := eL.lt) | ((have eL := ((bL.alloc _).alloc _).on hbe); (try rw [drew_size1] at eL); (repeat rw [alloc_size1] at eL); have eLx := hO8 eL; have eLl := eL.lt) | ((have eL : Known we _ _ #[.string ⟨#[43]⟩, .string ⟨#[45]⟩, .string ⟨#[42]⟩, .string ⟨#[47]⟩, .string ⟨#[32, 109, 111, 100, 32]⟩, .string ⟨#[61]⟩, .string ⟨#[60]⟩, .string ⟨#[62, 61]⟩] := ka1 hbe); (try rw [drew_size1] at eL); (repeat rw [alloc_size1] at eL); have eLx := hO8 eL; have eLl := eL.lt) | ((have eL : Known we _ _ #[.string ⟨#[43]⟩, .string ⟨#[45]⟩, .string ⟨#[42]⟩, .string ⟨#[47]⟩, .string ⟨#[32, 109, 111, 100, 32]⟩, .string ⟨#[61]⟩, .string ⟨#[60]⟩, .string ⟨#[62, 61]⟩] := ka2 hbe); (try rw [drew_size1] at eL); (repeat rw [alloc_size1] at eL); have eLx := hO8 eL; have eLl := eL.lt) | skip); (try clear bLx bLl); (try clear bL); (first | ((have eN := bN.on hbe); (try rw [drew_size1] at eN); (repeat rw [alloc_size1] at eN); obtain ⟨eNx, eNy⟩ := eN.two; have eNf := eN.free 0; have eNg := eN.free 1; have eNl := eN.lt) | ((have eN := (bN.alloc _).on hbe); (try rw [drew_size1] at eN); (repeat rw [alloc_size1] at eN); obtain ⟨eNx, eNy⟩ := eN.two; have eNf := eN.free 0; have eNg := eN.free 1; have eNl := eN.lt) | ((have eN := ((bN.alloc _).alloc _).on hbe); (try rw [drew_size1] at eN); (repeat rw [alloc_size1] at eN); obtain ⟨eNx, eNy⟩ := eN.two; have eNf := eN.free 0; have eNg := eN.free 1; have eNl := eN.lt) | ((have eN : Known we _ 23 #[.int .i64 0, .int .i64 0] := ka1 hbe); (try rw [drew_size1] at eN); (repeat rw [alloc_size1] at eN); obtain ⟨eNx, eNy⟩ := eN.two; have eNf := eN.free 0; have eNg := eN.free 1; have eNl := eN.lt) | ((have eN : Known we _ 23 #[.int .i64 0, .int .i64 0] := ka2 hbe); (try rw [drew_size1] at eN); (repeat rw [alloc_size1] at eN); obtain ⟨eNx, eNy⟩ := eN.two; have eNf := eN.free 0; have eNg := eN.free 1; have eNl := eN.lt) | skip); (try clear bNx bNl); (try clear bNy bNf bNg); (try clear bN)))
    all_goals
      clear hE h1 h2 hO8 gk
      go_wp2_with fail
      go_meet
      case rel => first
        | exact ⟨_, rfl, rfl, Known.made _ _ _, OpG.alloc ge _⟩
        | exact ⟨_, rfl, rfl, (eN.put 0 _).put 1 _, OpG.put (OpG.put ge (by first | assumption | (dsimp only; omega)) _) (by first | assumption | (dsimp only; omega)) _⟩
  case rest =>
    obtain ⟨g, rfl, rfl, KN, G⟩ := hcut
    have hC := fun w => compareR A 1 B 1 w i1 iu i2 iu
    have hgl := KN.lt
    have hyl := G.y.lt
    rcases eight hk with rfl | rfl | rfl | rfl | rfl | rfl | rfl | rfl
    · have hR' : R = addV A 1 B 1 := hR
      have hX := addR_any A 1 B 1 i1 iu i2 iu
      unfold Ret args2 at hX
      rw [← hR'] at hX
      generalize cmpN A 1 B 1 = C at *
      clear hR hR' e1 gk hE h1 h2
      obtain ⟨n0, n1⟩ := KN.two
      obtain ⟨x0, x1⟩ := G.x.two
      obtain ⟨y0, y1⟩ := G.y.two
      go_wp2_with fail
      refine (hC _).mono ?_
      rintro e wd ⟨rfl, hbd⟩
      have KN1 := KN.on hbd
      have G1 := G.on hbd
      clear n0 n1 x0 x1 y0 y1
      obtain ⟨x0, x1⟩ := G1.x.two
      obtain ⟨y0, y1⟩ := G1.y.two
      have hgd := KN1.lt
      have hyd := G1.y.lt
      have hxd := G1.x.lt
      have KM := Known.made wd 23 #[.int .i64 0, .int .i64 0]
      have KN2 := KN1.alloc (.cells #[.int .i64 0, .int .i64 0] 23)
      have G2 := G1.alloc (.cells #[.int .i64 0, .int .i64 0] 23)
      clear hbd hC KN G KN1
      go_wp2_with fail
      refine (hX _).mono ?_
      rintro e wf ⟨rfl, hbf⟩
      replace KM := KM.on hbf
      have KN3 := KN2.on hbf
      have G3 := G2.on hbf
      have hne : g ≠ wd.heap.size := by omega
      have hlw : w.heap.size + 1 < wd.heap.size := hyd
      obtain ⟨m0, m1⟩ := KM.two
      have q0 := KM.free 0
      have q1 := KM.free 1
      have Kz : Known _ _ _ #[.int .i64 R.1, .int .i64 (R.2.1)] := (KM.put 0 (.int .i64 R.1)).put 1 (.int .i64 (R.2.1))
      obtain ⟨z0, z1⟩ := Kz.two
      obtain ⟨nz0, nz1⟩ := ((KN3.far (p := ⟨wd.heap.size, 0, none⟩) hne (.int .i64 R.1)).far (p := ⟨wd.heap.size, 1, none⟩) hne (.int .i64 (R.2.1))).two
      have hbn := ((G3.put (p := ⟨wd.heap.size, 0, none⟩) hlw (.int .i64 R.1)).put (p := ⟨wd.heap.size, 1, none⟩) hlw (.int .i64 (R.2.1))).b
      clear hX KM hbf G1 G2 G3 KN2 KN3 x0 x1 y0 y1
      go_wp2_with fail
      refine (known_any _).mono ?_
      rintro e wh ⟨rfl, hbh⟩
      go_wp2_with fail
      go_ret
      exact ⟨rfl, hbn.then_ hbh⟩
    · have hR' : R = subV A 1 B 1 := hR
      have hX := subR_any A 1 B 1 i1 iu i2 iu
      unfold Ret args2 at hX
      rw [← hR'] at hX
      generalize cmpN A 1 B 1 = C at *
      clear hR hR' e1 gk hE h1 h2
      obtain ⟨n0, n1⟩ := KN.two
      obtain ⟨x0, x1⟩ := G.x.two
      obtain ⟨y0, y1⟩ := G.y.two
      go_wp2_with fail
      refine (hC _).mono ?_
      rintro e wd ⟨rfl, hbd⟩
      have KN1 := KN.on hbd
      have G1 := G.on hbd
      clear n0 n1 x0 x1 y0 y1
      obtain ⟨x0, x1⟩ := G1.x.two
      obtain ⟨y0, y1⟩ := G1.y.two
      have hgd := KN1.lt
      have hyd := G1.y.lt
      have hxd := G1.x.lt
      have KM := Known.made wd 23 #[.int .i64 0, .int .i64 0]
      have KN2 := KN1.alloc (.cells #[.int .i64 0, .int .i64 0] 23)
      have G2 := G1.alloc (.cells #[.int .i64 0, .int .i64 0] 23)
      clear hbd hC KN G KN1
      go_wp2_with fail
      refine (hX _).mono ?_
      rintro e wf ⟨rfl, hbf⟩
      replace KM := KM.on hbf
      have KN3 := KN2.on hbf
      have G3 := G2.on hbf
      have hne : g ≠ wd.heap.size := by omega
      have hlw : w.heap.size + 1 < wd.heap.size := hyd
      obtain ⟨m0, m1⟩ := KM.two
      have q0 := KM.free 0
      have q1 := KM.free 1
      have Kz : Known _ _ _ #[.int .i64 R.1, .int .i64 (R.2.1)] := (KM.put 0 (.int .i64 R.1)).put 1 (.int .i64 (R.2.1))
      obtain ⟨z0, z1⟩ := Kz.two
      obtain ⟨nz0, nz1⟩ := ((KN3.far (p := ⟨wd.heap.size, 0, none⟩) hne (.int .i64 R.1)).far (p := ⟨wd.heap.size, 1, none⟩) hne (.int .i64 (R.2.1))).two
      have hbn := ((G3.put (p := ⟨wd.heap.size, 0, none⟩) hlw (.int .i64 R.1)).put (p := ⟨wd.heap.size, 1, none⟩) hlw (.int .i64 (R.2.1))).b
      clear hX KM hbf G1 G2 G3 KN2 KN3 x0 x1 y0 y1
      go_wp2_with fail
      refine (known_any _).mono ?_
      rintro e wh ⟨rfl, hbh⟩
      go_wp2_with fail
      go_ret
      exact ⟨rfl, hbn.then_ hbh⟩
    · have hR' : R = mulV A 1 B 1 := hR
      have hX := mulR_any A 1 B 1 i1 iu i2 iu
      unfold Ret args2 at hX
      rw [← hR'] at hX
      generalize cmpN A 1 B 1 = C at *
      clear hR hR' e1 gk hE h1 h2
      obtain ⟨n0, n1⟩ := KN.two
      obtain ⟨x0, x1⟩ := G.x.two
      obtain ⟨y0, y1⟩ := G.y.two
      go_wp2_with fail
      refine (hC _).mono ?_
      rintro e wd ⟨rfl, hbd⟩
      have KN1 := KN.on hbd
      have G1 := G.on hbd
      clear n0 n1 x0 x1 y0 y1
      obtain ⟨x0, x1⟩ := G1.x.two
      obtain ⟨y0, y1⟩ := G1.y.two
      have hgd := KN1.lt
      have hyd := G1.y.lt
      have hxd := G1.x.lt
      have KM := Known.made wd 23 #[.int .i64 0, .int .i64 0]
      have KN2 := KN1.alloc (.cells #[.int .i64 0, .int .i64 0] 23)
      have G2 := G1.alloc (.cells #[.int .i64 0, .int .i64 0] 23)
      clear hbd hC KN G KN1
      go_wp2_with fail
      refine (hX _).mono ?_
      rintro e wf ⟨rfl, hbf⟩
      replace KM := KM.on hbf
      have KN3 := KN2.on hbf
      have G3 := G2.on hbf
      have hne : g ≠ wd.heap.size := by omega
      have hlw : w.heap.size + 1 < wd.heap.size := hyd
      obtain ⟨m0, m1⟩ := KM.two
      have q0 := KM.free 0
      have q1 := KM.free 1
      have Kz : Known _ _ _ #[.int .i64 R.1, .int .i64 (R.2.1)] := (KM.put 0 (.int .i64 R.1)).put 1 (.int .i64 (R.2.1))
      obtain ⟨z0, z1⟩ := Kz.two
      obtain ⟨nz0, nz1⟩ := ((KN3.far (p := ⟨wd.heap.size, 0, none⟩) hne (.int .i64 R.1)).far (p := ⟨wd.heap.size, 1, none⟩) hne (.int .i64 (R.2.1))).two
      have hbn := ((G3.put (p := ⟨wd.heap.size, 0, none⟩) hlw (.int .i64 R.1)).put (p := ⟨wd.heap.size, 1, none⟩) hlw (.int .i64 (R.2.1))).b
      clear hX KM hbf G1 G2 G3 KN2 KN3 x0 x1 y0 y1
      go_wp2_with fail
      refine (known_any _).mono ?_
      rintro e wh ⟨rfl, hbh⟩
      go_wp2_with fail
      go_ret
      exact ⟨rfl, hbn.then_ hbh⟩
    · have hR' : R = divV A 1 B 1 := hR
      have hX := divR_any A 1 B 1 i1 iu i2 iu
      unfold Ret args2 at hX
      rw [← hR'] at hX
      generalize cmpN A 1 B 1 = C at *
      clear hR hR' e1 gk hE h1 h2
      obtain ⟨n0, n1⟩ := KN.two
      obtain ⟨x0, x1⟩ := G.x.two
      obtain ⟨y0, y1⟩ := G.y.two
      go_wp2_with fail
      refine (hC _).mono ?_
      rintro e wd ⟨rfl, hbd⟩
      have KN1 := KN.on hbd
      have G1 := G.on hbd
      clear n0 n1 x0 x1 y0 y1
      obtain ⟨x0, x1⟩ := G1.x.two
      obtain ⟨y0, y1⟩ := G1.y.two
      have hgd := KN1.lt
      have hyd := G1.y.lt
      have hxd := G1.x.lt
      have KM := Known.made wd 23 #[.int .i64 0, .int .i64 0]
      have KN2 := KN1.alloc (.cells #[.int .i64 0, .int .i64 0] 23)
      have G2 := G1.alloc (.cells #[.int .i64 0, .int .i64 0] 23)
      clear hbd hC KN G KN1
      go_wp2_with fail
      refine (hX _).mono ?_
      rintro e wf ⟨rfl, hbf⟩
      replace KM := KM.on hbf
      have KN3 := KN2.on hbf
      have G3 := G2.on hbf
      have hne : g ≠ wd.heap.size := by omega
      have hlw : w.heap.size + 1 < wd.heap.size := hyd
      obtain ⟨m0, m1⟩ := KM.two
      have q0 := KM.free 0
      have q1 := KM.free 1
      have Kz : Known _ _ _ #[.int .i64 R.1, .int .i64 (R.2.1)] := (KM.put 0 (.int .i64 R.1)).put 1 (.int .i64 (R.2.1))
      obtain ⟨z0, z1⟩ := Kz.two
      obtain ⟨nz0, nz1⟩ := ((KN3.far (p := ⟨wd.heap.size, 0, none⟩) hne (.int .i64 R.1)).far (p := ⟨wd.heap.size, 1, none⟩) hne (.int .i64 (R.2.1))).two
      have hbn := ((G3.put (p := ⟨wd.heap.size, 0, none⟩) hlw (.int .i64 R.1)).put (p := ⟨wd.heap.size, 1, none⟩) hlw (.int .i64 (R.2.1))).b
      clear hX KM hbf G1 G2 G3 KN2 KN3 x0 x1 y0 y1
      go_wp2_with fail
      refine (known_any _).mono ?_
      rintro e wh ⟨rfl, hbh⟩
      go_wp2_with fail
      go_ret
      exact ⟨rfl, hbn.then_ hbh⟩
    · have hR' : R = modV A 1 B 1 := hR
      have hX := modR_any A 1 B 1 i1 iu i2 iu
      unfold Ret args2 at hX
      rw [← hR'] at hX
      generalize cmpN A 1 B 1 = C at *
      clear hR hR' e1 gk hE h1 h2
      obtain ⟨n0, n1⟩ := KN.two
      obtain ⟨x0, x1⟩ := G.x.two
      obtain ⟨y0, y1⟩ := G.y.two
      go_wp2_with fail
      refine (hC _).mono ?_
      rintro e wd ⟨rfl, hbd⟩
      have KN1 := KN.on hbd
      have G1 := G.on hbd
      clear n0 n1 x0 x1 y0 y1
      obtain ⟨x0, x1⟩ := G1.x.two
      obtain ⟨y0, y1⟩ := G1.y.two
      have hgd := KN1.lt
      have hyd := G1.y.lt
      have hxd := G1.x.lt
      have KM := Known.made wd 23 #[.int .i64 0, .int .i64 0]
      have KN2 := KN1.alloc (.cells #[.int .i64 0, .int .i64 0] 23)
      have G2 := G1.alloc (.cells #[.int .i64 0, .int .i64 0] 23)
      clear hbd hC KN G KN1
      go_wp2_with fail
      refine (hX _).mono ?_
      rintro e wf ⟨rfl, hbf⟩
      replace KM := KM.on hbf
      have KN3 := KN2.on hbf
      have G3 := G2.on hbf
      have hne : g ≠ wd.heap.size := by omega
      have hlw : w.heap.size + 1 < wd.heap.size := hyd
      obtain ⟨m0, m1⟩ := KM.two
      have q0 := KM.free 0
      have q1 := KM.free 1
      have Kz : Known _ _ _ #[.int .i64 R.1, .int .i64 (R.2.1)] := (KM.put 0 (.int .i64 R.1)).put 1 (.int .i64 (R.2.1))
      obtain ⟨z0, z1⟩ := Kz.two
      obtain ⟨nz0, nz1⟩ := ((KN3.far (p := ⟨wd.heap.size, 0, none⟩) hne (.int .i64 R.1)).far (p := ⟨wd.heap.size, 1, none⟩) hne (.int .i64 (R.2.1))).two
      have hbn := ((G3.put (p := ⟨wd.heap.size, 0, none⟩) hlw (.int .i64 R.1)).put (p := ⟨wd.heap.size, 1, none⟩) hlw (.int .i64 (R.2.1))).b
      clear hX KM hbf G1 G2 G3 KN2 KN3 x0 x1 y0 y1
      go_wp2_with fail
      refine (known_any _).mono ?_
      rintro e wh ⟨rfl, hbh⟩
      go_wp2_with fail
      go_ret
      exact ⟨rfl, hbn.then_ hbh⟩
    · have hR' : R = (truthV (cmpN A 1 B 1 == 0), 1, 0) := hR
      generalize cmpN A 1 B 1 = C at *
      have hX := truthR_any (C == 0)
      generalize truthV (C == 0) = t at *
      subst hR'
      simp only at KN
      clear hR e1 gk hE h1 h2
      obtain ⟨n0, n1⟩ := KN.two
      obtain ⟨x0, x1⟩ := G.x.two
      obtain ⟨y0, y1⟩ := G.y.two
      go_wp2_with fail
      refine (hC _).mono ?_
      rintro e wd ⟨rfl, hbd⟩
      have KN1 := KN.on hbd
      have G1 := G.on hbd
      clear n0 n1 x0 x1 y0 y1
      obtain ⟨x0, x1⟩ := G1.x.two
      obtain ⟨y0, y1⟩ := G1.y.two
      have hgd := KN1.lt
      have hyd := G1.y.lt
      have hxd := G1.x.lt
      have KM := Known.made wd 23 #[.int .i64 0, .int .i64 0]
      have KN2 := KN1.alloc (.cells #[.int .i64 0, .int .i64 0] 23)
      have G2 := G1.alloc (.cells #[.int .i64 0, .int .i64 0] 23)
      clear hbd hC KN G KN1
      go_wp2_with fail
      refine (hX _).mono ?_
      rintro e wf ⟨rfl, hbf⟩
      replace KM := KM.on hbf
      have KN3 := KN2.on hbf
      have G3 := G2.on hbf
      have hne : g ≠ wd.heap.size := by omega
      have hlw : w.heap.size + 1 < wd.heap.size := hyd
      obtain ⟨m0, m1⟩ := KM.two
      have q0 := KM.free 0
      have q1 := KM.free 1
      have Kz : Known _ _ _ #[.int .i64 t, .int .i64 (1)] := (KM.put 0 (.int .i64 t)).put 1 (.int .i64 (1))
      obtain ⟨z0, z1⟩ := Kz.two
      obtain ⟨nz0, nz1⟩ := ((KN3.far (p := ⟨wd.heap.size, 0, none⟩) hne (.int .i64 t)).far (p := ⟨wd.heap.size, 1, none⟩) hne (.int .i64 (1))).two
      have hbn := ((G3.put (p := ⟨wd.heap.size, 0, none⟩) hlw (.int .i64 t)).put (p := ⟨wd.heap.size, 1, none⟩) hlw (.int .i64 (1))).b
      clear hX KM hbf G1 G2 G3 KN2 KN3 x0 x1 y0 y1
      go_wp2_with fail
      refine (known_any _).mono ?_
      rintro e wh ⟨rfl, hbh⟩
      go_wp2_with fail
      go_ret
      exact ⟨rfl, hbn.then_ hbh⟩
    · have hR' : R = (truthV (decide (cmpN A 1 B 1 < 0)), 1, 0) := hR
      generalize cmpN A 1 B 1 = C at *
      have hX := truthR_any (decide (C < 0))
      generalize truthV (decide (C < 0)) = t at *
      subst hR'
      simp only at KN
      clear hR e1 gk hE h1 h2
      obtain ⟨n0, n1⟩ := KN.two
      obtain ⟨x0, x1⟩ := G.x.two
      obtain ⟨y0, y1⟩ := G.y.two
      go_wp2_with fail
      refine (hC _).mono ?_
      rintro e wd ⟨rfl, hbd⟩
      have KN1 := KN.on hbd
      have G1 := G.on hbd
      clear n0 n1 x0 x1 y0 y1
      obtain ⟨x0, x1⟩ := G1.x.two
      obtain ⟨y0, y1⟩ := G1.y.two
      have hgd := KN1.lt
      have hyd := G1.y.lt
      have hxd := G1.x.lt
      have KM := Known.made wd 23 #[.int .i64 0, .int .i64 0]
      have KN2 := KN1.alloc (.cells #[.int .i64 0, .int .i64 0] 23)
      have G2 := G1.alloc (.cells #[.int .i64 0, .int .i64 0] 23)
      clear hbd hC KN G KN1
      go_wp2_with fail
      refine (hX _).mono ?_
      rintro e wf ⟨rfl, hbf⟩
      replace KM := KM.on hbf
      have KN3 := KN2.on hbf
      have G3 := G2.on hbf
      have hne : g ≠ wd.heap.size := by omega
      have hlw : w.heap.size + 1 < wd.heap.size := hyd
      obtain ⟨m0, m1⟩ := KM.two
      have q0 := KM.free 0
      have q1 := KM.free 1
      have Kz : Known _ _ _ #[.int .i64 t, .int .i64 (1)] := (KM.put 0 (.int .i64 t)).put 1 (.int .i64 (1))
      obtain ⟨z0, z1⟩ := Kz.two
      obtain ⟨nz0, nz1⟩ := ((KN3.far (p := ⟨wd.heap.size, 0, none⟩) hne (.int .i64 t)).far (p := ⟨wd.heap.size, 1, none⟩) hne (.int .i64 (1))).two
      have hbn := ((G3.put (p := ⟨wd.heap.size, 0, none⟩) hlw (.int .i64 t)).put (p := ⟨wd.heap.size, 1, none⟩) hlw (.int .i64 (1))).b
      clear hX KM hbf G1 G2 G3 KN2 KN3 x0 x1 y0 y1
      go_wp2_with fail
      refine (known_any _).mono ?_
      rintro e wh ⟨rfl, hbh⟩
      go_wp2_with fail
      go_ret
      exact ⟨rfl, hbn.then_ hbh⟩
    · have hR' : R = (truthV (decide (0 ≤ cmpN A 1 B 1)), 1, 0) := hR
      generalize cmpN A 1 B 1 = C at *
      have hX := truthR_any (decide (0 ≤ C))
      generalize truthV (decide (0 ≤ C)) = t at *
      subst hR'
      simp only at KN
      clear hR e1 gk hE h1 h2
      obtain ⟨n0, n1⟩ := KN.two
      obtain ⟨x0, x1⟩ := G.x.two
      obtain ⟨y0, y1⟩ := G.y.two
      go_wp2_with fail
      refine (hC _).mono ?_
      rintro e wd ⟨rfl, hbd⟩
      have KN1 := KN.on hbd
      have G1 := G.on hbd
      clear n0 n1 x0 x1 y0 y1
      obtain ⟨x0, x1⟩ := G1.x.two
      obtain ⟨y0, y1⟩ := G1.y.two
      have hgd := KN1.lt
      have hyd := G1.y.lt
      have hxd := G1.x.lt
      have KM := Known.made wd 23 #[.int .i64 0, .int .i64 0]
      have KN2 := KN1.alloc (.cells #[.int .i64 0, .int .i64 0] 23)
      have G2 := G1.alloc (.cells #[.int .i64 0, .int .i64 0] 23)
      clear hbd hC KN G KN1
      go_wp2_with fail
      refine (hX _).mono ?_
      rintro e wf ⟨rfl, hbf⟩
      replace KM := KM.on hbf
      have KN3 := KN2.on hbf
      have G3 := G2.on hbf
      have hne : g ≠ wd.heap.size := by omega
      have hlw : w.heap.size + 1 < wd.heap.size := hyd
      obtain ⟨m0, m1⟩ := KM.two
      have q0 := KM.free 0
      have q1 := KM.free 1
      have Kz : Known _ _ _ #[.int .i64 t, .int .i64 (1)] := (KM.put 0 (.int .i64 t)).put 1 (.int .i64 (1))
      obtain ⟨z0, z1⟩ := Kz.two
      obtain ⟨nz0, nz1⟩ := ((KN3.far (p := ⟨wd.heap.size, 0, none⟩) hne (.int .i64 t)).far (p := ⟨wd.heap.size, 1, none⟩) hne (.int .i64 (1))).two
      have hbn := ((G3.put (p := ⟨wd.heap.size, 0, none⟩) hlw (.int .i64 t)).put (p := ⟨wd.heap.size, 1, none⟩) hlw (.int .i64 (1))).b
      clear hX KM hbf G1 G2 G3 KN2 KN3 x0 x1 y0 y1
      go_wp2_with fail
      refine (known_any _).mono ?_
      rintro e wh ⟨rfl, hbh⟩
      go_wp2_with fail
      go_ret
      exact ⟨rfl, hbn.then_ hbh⟩
end Go.Proofs.YtlkfnpmcihfjmaaDoor
