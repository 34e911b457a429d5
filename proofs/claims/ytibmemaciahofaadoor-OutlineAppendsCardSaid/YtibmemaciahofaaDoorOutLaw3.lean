/-
  The law OutlineAppends, walked. Condition: the library's table of powers of ten as it is laid.
-/
import Derived.Test.YtibmemaciahofaaDoorNoteMore
import Derived.Test.YtibmemaciahofaaDoorNoteSame
import Derived.Test.YtibmemaciahofaaDoorContSame
import Derived.Test.YtibmemaciahofaaDoorOutKnown
namespace Go.Proofs.YtibmemaciahofaaDoor
open Go.RowKit Doc Note Cont
set_option linter.unusedVariables false
attribute [local go_sem ↓] Go.wp_at_zero Go.wp_at_succ

theorem IsInts.below {W W' : World} {a : Option Addr} {len cap : Nat} {zs : List Int} (h : IsInts W a len cap zs) (hb : Below W.heap.size W W') : IsInts W' a len cap zs := by
  have hc : ∀ x, a = some x → 0 < cap → x.block < W.heap.size := by
    intro x hx hl
    rcases h with ⟨_, _, h, _⟩ | ⟨y, hy, _, _, h7, h8, _⟩
    · omega
    · rw [hx] at hy
      obtain rfl := Option.some.inj hy
      have := World.block_lt_of_cell? W _ (h8 0 (by omega))
      rwa [add_block] at this
  exact h.keep fun x i hx hp => hb.cell (p := x.add i) (by rw [add_block]; exact hc x hx hp)

set_option maxRecDepth 20000 in
set_option maxHeartbeats 1000000 in
theorem law_appends (a : Option Addr) (len cap : Nat) (zs : List Int) (a' : Option Addr) (len' cap' : Nat) (zs' : List Int) (w : World) (hz : IsInts w a len cap zs) (hz' : IsInts w a' len' cap' zs') (ht : Tab w) :
    Calls Tryd.prog 7 #[.slice a len cap, .slice a' len' cap'] w fun e w' => e = .returned (.bool true) ∧ Below w.heap.size w w' := by
  have HT := Lib.hid ht
  have HZ' := Lib.hid hz'
  have hN := newT a len cap zs w hz
  clear ht hz hz'
  go_enter Tryd.func7, Tryd.ntmps7
  go_wp2_with fail
  refine hN.mono ?_
  rintro e w1 ⟨g, rfl, hg, hb1, tp⟩
  have hB := bls_1 g w1 tp
  clear hN tp
  go_wp2_with fail
  refine hB.mono ?_
  rintro e w2 ⟨p, c, A, rfl, hAt, hAs, ts, hsA⟩
  have hb2 : Below w.heap.size w w2 := hb1.trans (ts.st.below.mono hg)
  have hN2 := newT a' len' cap' zs' w2 (HZ'.out.below hb2)
  clear hB ts hb1
  go_wp2_with fail
  refine hN2.mono ?_
  rintro e w3 ⟨g2, rfl, hg2, hb3, tp2⟩
  have hB2 := bls_1 g2 w3 tp2
  clear hN2 tp2
  go_wp2_with fail
  refine hB2.mono ?_
  rintro e w4 ⟨p', c', B, rfl, hBt, hBs, ts2, hsB⟩
  have hb24 : Below w2.heap.size w2 w4 := hb3.trans (ts2.st.below.mono hg2)
  have hb4 : Below w.heap.size w w4 := below_then hb2 hb24
  have hA4 := blsS.sl_on hsA (Kept.below hb24)
  have o0 : blsS.own 50 (fun k => k < w4.heap.size) w4.heap.size w4 (.slice none 0 0) Bls.nil := Shp.own.nil
  have sA : blsS.src (Shp.kind (fun k => k < w4.heap.size) w4.heap.size (.slice none 0 0)) w4 (.slice p A.len c) A := Shp.src_of (blsS.sl_on hA4 (Kept.mono fun k _ hk => ⟨.inl hk, by intro e; cases e⟩))
  have sB : blsS.sl (Shp.kind (fun k => k < w4.heap.size) w4.heap.size (.slice none 0 0)) w4 (.slice p' B.len c') B := blsS.sl_on hsB (Kept.mono fun k _ hk => ⟨.inl hk, by intro e; cases e⟩)
  have hal := A.len_size
  have hbl := B.len_size
  have O0 := Lib.hid o0
  have SA := Lib.hid sA
  have SB := Lib.hid sB
  have HA4 := Lib.hid hA4
  have H4 := Lib.hid hb4
  have LA : Hid (blsS.len A = A.len) := Lib.hid rfl
  clear hB2 ts2 hsA hsB hb2 hb3 hb24 hA4 o0 sA sB hb4
  go_upto_region 2 with fail
  go_wp2_with (at_builtin; first
    | (refine append_shp blsS tyB _ rfl _ _ rfl own5 rfl (Shp.src_of (blsS.sl_on SB.out kd5)) rfl (by show (A.len + B.len) * 81 ≤ _; omega) gr5.size ?_; intro v2 w6 own7 gr6 bel6 kd6)
    | (refine append_shp blsS tyB _ rfl _ _ rfl O0.out rfl SA.out rfl (by show (0 + A.len) * 81 ≤ _; omega) (Nat.le_refl _) ?_; intro v1 w5 own5 gr5 bel5 kd5; have own6 := own5))
  have hB46 : Below w4.heap.size w4 w6 := bel6 _ (bel5 _ (Below.refl _ _))
  obtain ⟨vp, vc, hv⟩ := own7.form
  have hv2 : v2 = .slice vp (A.app B).len vc := hv
  clear hv
  subst hv2
  have hC6 : blsS.sl (fun _ => True) w6 (.slice vp (A.app B).len vc) (A.app B) := blsS.sl_on own7.sl (Kept.mono fun _ _ _ => trivial)
  have hA6 := blsS.sl_on HA4.out (Kept.below hB46)
  have H6 := Lib.hid (below_then H4.out hB46)
  have hAsz := A.tiny_bulk hAt
  have hBsz := B.tiny_bulk hBt
  have hCt : (A.app B).tiny := Bls.tiny_app.2 ⟨hAt, hBt⟩
  have hCs : (A.app B).size ≤ 600 := by rw [Bls.size_app]; omega
  have hCb := (A.app B).tiny_bulk hCt
  have hcA := fun W (hW : Below w6.heap.size w6 W) => cont_any _ A p c W (by omega) (by omega) (blsS.sl_on hA6 (Kept.below hW)) (HT.out.on (below_then H6.out hW))
  have hcC := fun W (hW : Below w6.heap.size w6 W) => cont_any _ (A.app B) vp vc W (by omega) (by omega) (blsS.sl_on hC6 (Kept.below hW)) (HT.out.on (below_then H6.out hW))
  have hmA := fun W (hW : Below w6.heap.size w6 W) => marksB_any _ _ A p c W (Nat.lt_succ_self _) (by omega) (blsS.sl_on hA6 (Kept.below hW))
  have hmC := fun W (hW : Below w6.heap.size w6 W) => marksB_any _ _ (A.app B) vp vc W (Nat.lt_succ_self _) (by omega) (blsS.sl_on hC6 (Kept.below hW))
  have hnA := fun W (hW : Below w6.heap.size w6 W) => notes_any _ A p c W (by omega) (blsS.sl_on hA6 (Kept.below hW)) (A.fit_bulk (by omega))
  have hnC := fun W (hW : Below w6.heap.size w6 W) => notes_any _ (A.app B) vp vc W (by omega) (blsS.sl_on hC6 (Kept.below hW)) ((A.app B).fit_bulk (by omega))
  have HcA := Lib.hid hcA
  have HcC := Lib.hid hcC
  have HmA := Lib.hid hmA
  have HmC := Lib.hid hmC
  have HnA := Lib.hid hnA
  have HnC := Lib.hid hnC
  clear hcA hcC hmA hmC hnA hnC hC6 hA6 O0 SA SB HA4 H4 LA HZ' own5 own6 own7 gr5 gr6 bel5 bel6 kd5 kd6 hB46
  refine (HcA.out _ (Below.refl _ _)).mono ?_
  rintro e w7 ⟨xp, xc, rfl, hb7, hx⟩
  go_wp2_with fail
  refine (HcC.out _ hb7).mono ?_
  rintro e w8 ⟨yp, yc, rfl, hb8, hy⟩
  have hx := entS.sl_on hx (Kept.below hb8)
  have hb := below_then hb7 hb8
  clear hb7 hb8
  go_wp2_with fail
  refine (HmA.out _ hb).mono ?_
  rintro e w9 ⟨mp, mc, rfl, hb9, hm⟩
  have hx := entS.sl_on hx (Kept.below hb9)
  have hy := entS.sl_on hy (Kept.below hb9)
  have hb := below_then hb hb9
  clear hb9
  go_wp2_with fail
  refine (HmC.out _ hb).mono ?_
  rintro e w10 ⟨np, nc, rfl, hb10, hn⟩
  have hx := entS.sl_on hx (Kept.below hb10)
  have hy := entS.sl_on hy (Kept.below hb10)
  have hm := insS.sl_on hm (Kept.below hb10)
  have hb := below_then hb hb10
  clear hb10
  go_wp2_with fail
  refine (HnA.out _ hb).mono ?_
  rintro e w11 ⟨v1', I1, U1, B1, rfl, hb11, hp⟩
  have hx := entS.sl_on hx (Kept.below hb11)
  have hy := entS.sl_on hy (Kept.below hb11)
  have hm := insS.sl_on hm (Kept.below hb11)
  have hn := insS.sl_on hn (Kept.below hb11)
  have hb := below_then hb hb11
  clear hb11
  obtain ⟨pp, pc, rfl⟩ := hp.len
  have hP := NF2.of hp (good_notes A.marks).ne
  go_wp2_with fail
  refine (HnC.out _ hb).mono ?_
  rintro e w12 ⟨v2', I2, U2, B2, rfl, hb12, hq⟩
  have hx := entS.sl_on hx (Kept.below hb12)
  have hy := entS.sl_on hy (Kept.below hb12)
  have hm := insS.sl_on hm (Kept.below hb12)
  have hn := insS.sl_on hn (Kept.below hb12)
  have hP := hP.below hb12
  have hb := below_then hb hb12
  clear hb12
  obtain ⟨qp, qc, rfl⟩ := hq.len
  have hQ := NF2.of hq (good_notes (A.app B).marks).ne
  obtain ⟨ex, -, ex2, ex3⟩ := Ents.of hx
  obtain ⟨ey, -, ey2, ey3⟩ := Ents.of hy
  obtain ⟨ct1, ct2⟩ := cont_take A B
  have ey4 := ey.take (cont A).length
  rw [ct1] at ey4
  have hmk : (A.app B).marks = A.marks.app B.marks := Bls.marks_app A B
  have hmo : More (notes A.marks) (notes (A.app B).marks) := by rw [hmk]; exact More.app _ _
  have hml : (A.app B).marks.len = A.marks.len + B.marks.len := by rw [hmk, Ins.len_app]
  have hn2 : insS.sl (fun k => w9.heap.size ≤ k) w12 (.slice np A.marks.len nc) A.marks := by
    have h := hn
    rw [hmk] at h
    exact sl_cut h
  have hms := A.marks_size
  have hml2 := A.marks.len_size
  have hcl : (cont A).length ≤ 600 := by have h1 : (contF [] A).length ≤ 0 + A.len := contF_len A []; show (contF [] A).length ≤ 600; omega
  have hSE := fun W (hW : Below w12.heap.size w12 W) => sameE_any (cont A) xp xc yp yc W (by omega) (ex.below hW) (ey4.below hW) (by omega) (by omega) (by omega) (by omega)
  have hSM := fun W (hW : Below w12.heap.size w12 W) => same_any _ _ _ A.marks mp mc np nc W (Nat.lt_succ_self _) (by omega) (insS.sl_on hm (Kept.below hW)) (insS.sl_on hn2 (Kept.below hW))
  have hp1 := hmo.1
  have hQ' := Lib.hid hQ
  have hP' := Lib.hid hP
  have HMO := Lib.hid hmo
  have hii := ins_notes A.marks
  have hpb : (notes A.marks).length ≤ 0 + A.marks.len := notesF_len A.marks [] 0
  have hpb2 : (notes A.marks).length ≤ 600 := by omega
  clear hpb
  have HA9 : Hid (A.marks.size ≤ 300) := Lib.hid (by omega)
  have HH := Lib.hid hb
  have h12 := Below.refl w12.heap.size w12
  have hnn : A.marks.len ≤ (A.app B).marks.len := by omega
  have gx : decide (((cont (A.app B)).length : Int) < ((cont A).length : Int)) = false := by rw [decide_eq_false_iff_not]; omega
  have gm : decide (((A.app B).marks.len : Int) < (A.marks.len : Int)) = false := by rw [decide_eq_false_iff_not]; omega
  have gp : decide (((notes (A.app B).marks).length : Int) < ((notes A.marks).length : Int)) = false := by rw [decide_eq_false_iff_not]; omega
  obtain ⟨-, -, hnc1, hnc2⟩ := Shp.rest_start hn
  have gx2 : decide ((cont (A.app B)).length < (cont A).length) = false := by rw [decide_eq_false_iff_not]; omega
  have gm2 : decide ((A.app B).marks.len < A.marks.len) = false := by rw [decide_eq_false_iff_not]; omega
  have gp2 : decide ((notes (A.app B).marks).length < (notes A.marks).length) = false := by rw [decide_eq_false_iff_not]; omega
  clear hx hy hm hn hn2 hp hq hQ hP hmo hb ct1 hmk ex ey ey4 HcA HcC HmA HmC HnA HnC hml
  generalize (cont A).length = xl at *
  generalize (cont (A.app B)).length = yl at *
  generalize A.marks.len = ml at *
  generalize (A.app B).marks.len = nl at *
  have HSE := Lib.hid hSE
  have HSM := Lib.hid hSM
  clear hSE hSM
  go_wp2_with fail
  refine (HSE.out _ h12).mono ?_
  rintro e w13 ⟨rfl, hb13⟩
  go_wp2_with fail
  refine (HSM.out _ hb13).mono ?_
  rintro e w14 ⟨rfl, hb14⟩
  have HB14 := Lib.hid (below_then hb13 hb14)
  clear hb13 hb14 h12
  obtain ⟨PL, hPL⟩ : ∃ PL, PL = notes A.marks := ⟨_, rfl⟩
  obtain ⟨QL, hQL⟩ : ∃ QL, QL = notes (A.app B).marks := ⟨_, rfl⟩
  rw [← hPL] at hP' HMO gp gp2 hii hpb2
  rw [← hQL] at hQ' HMO gp gp2
  rw [← hPL, ← hQL]
  clear hPL hQL
  go_wp2_with fail
  obtain ⟨pn, hpn⟩ : ∃ pn, pn = PL.length := ⟨_, rfl⟩
  obtain ⟨qn, hqn⟩ : ∃ qn, qn = QL.length := ⟨_, rfl⟩
  rw [← hpn] at hpb2
  rw [← hpn, ← hqn]
  have HPN := Lib.hid hpn
  have HII := Lib.hid hii
  clear hii
  have HQN := Lib.hid hqn
  clear hpn hqn
  go_loopg [14] (pn + 1) (fun g s14 wr => ∃ i : Nat, i ≤ pn ∧ pn < i + g ∧ s14 = .int .i64 i ∧ Below w12.heap.size w12 wr)
  case atStart => exact ⟨0, by omega, by omega, rfl, HB14.out⟩
  case round =>
    obtain ⟨i, hi1, hgk, rfl, hb⟩ := hrel
    by_cases hin : i < pn
    · have g1 : decide ((i : Int) < (pn : Int)) = true := by simp; omega
      have hil : i < PL.length := by rw [← HPN.out]; exact hin
      obtain ⟨hq1, hq2⟩ := HMO.out
      have hjl : i < QL.length := by omega
      have hjn : i < qn := by rw [HQN.out]; exact hjl
      obtain ⟨r, gi, uc, ip, ic, rfl, hr, hgi, c0, c1, c2, csl, cu⟩ := (hP'.out.below hb) i hil
      obtain ⟨r', gi', uc', ip', ic', rfl, hr', hgi', d0, d1, d2, dsl, du⟩ := (hQ'.out.below hb) i hjl
      obtain ⟨m1, m2, m3⟩ := hq2 i hil
      have hsz := Nat.le_trans (HII.out i hil) HA9.out
      generalize PL.getD i default = x at c0 c1 c2 csl m1 m2 m3 hsz
      generalize QL.getD i default = y at d0 d1 d2 dsl m1 m2 m3
      obtain ⟨nm, ins, us⟩ := x
      obtain ⟨nm', ins', us'⟩ := y
      dsimp only at c0 c1 c2 csl d0 d1 d2 dsl m1 m2 m3 hsz
      subst m1
      have ss := sstr_self nm'
      generalize us.length = ul at c2 m2
      generalize us'.length = ul' at d2 m2
      have gu : decide ((ul' : Int) < (ul : Int)) = false := by rw [decide_eq_false_iff_not]; omega
      have gu2 : decide (ul' < ul) = false := by rw [decide_eq_false_iff_not]; omega
      have HB := Lib.hid hb
      have HGK := Lib.hid hgk
      clear cu du hil hjl hq1 hq2 hb hgk
      go_upto_region 11 with fail
      go_cut [128] from 74 to 128 (fun s128 wc => s128 = .bool false ∧ Below wr.heap.size wr wc)
      case first =>
        by_cases h0 : ins.len = 0
        · have gz : decide ((0 : Int) < (ins.len : Int)) = false := by rw [decide_eq_false_iff_not]; omega
          have gz2 : decide (0 < ins.len) = false := by rw [decide_eq_false_iff_not]; omega
          generalize ins.len = il at *
          clear csl dsl m3 HB HGK HII HPN HQN HMO HH HT H6 HB14 hP' hQ' h0
          have gz3 : ¬ (0 : Int) < (il : Int) := of_decide_eq_false gz
          clear gz3
          refine wp_region_gr (by kernel_rfl) (by kernel_rfl) ?_
          repeat (go_big_quiet_step (fail))
          with_reducible refine wpQuiet_nil ?_
          intro _ hw'; obtain ⟨w6, hw''⟩ := hw'; subst hw''
          have B6 := gr_below wr w6
          go_wp2_with fail
          go_meet
          case rel => exact ⟨rfl, B6⟩
        · obtain rfl := m3 h0
          have gz : decide ((0 : Int) < (ins'.len : Int)) = true := by rw [decide_eq_true_eq]; omega
          have gz2 : decide (0 < ins'.len) = true := by rw [decide_eq_true_eq]; omega
          have hsz2 : ins'.size ≤ 1000000 := Nat.le_trans hsz (by decide)
          have hC := fun x => same_any _ _ _ ins' ip ic ip' ic' (gr wr x) (Nat.lt_succ_self _) hsz2 (insS.sl_on csl (Kept.below (gr_below wr x))) (insS.sl_on dsl (Kept.below (gr_below wr x)))
          generalize ins'.len = il at *
          clear csl dsl m3 HB HGK HII HPN HQN HMO HH HT H6 HB14 hP' hQ'
          refine wp_region_gr (by kernel_rfl) (by kernel_rfl) ?_
          repeat (go_big_quiet_step ((go_at_call 18; exact gr_call (hC _))))
          with_reducible refine wpQuiet_nil ?_
          intro _ hw'; obtain ⟨w6, hw''⟩ := hw'; subst hw''
          have B6 := gr_below wr w6
          go_wp2_with fail
          go_meet
          case rel => exact ⟨rfl, B6⟩
      case rest =>
        obtain ⟨rfl, hbc⟩ := hcut
        have hb2 := below_then HB.out hbc
        go_wp2_with fail
        go_roundg (pn - i)
        case measure => have := HGK.out; omega
        case rel => exact ⟨i + 1, by omega, by omega, by go_num, hb2⟩
    · have g1 : decide ((i : Int) < (pn : Int)) = false := by simp; omega
      go_wp2_with fail
      refine (known_any _ (HT.out.on (below_then H6.out (below_then HH.out hb)))).mono ?_
      rintro e w15 ⟨rfl, hb15⟩
      go_wp2_with fail
      go_ret
      exact ⟨rfl, below_then (below_then H6.out (below_then HH.out hb)) hb15⟩
end Go.Proofs.YtibmemaciahofaaDoor
