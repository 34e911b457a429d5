/-
  The law OutlineNumbers, walked. Condition: the library's table of powers of ten as it is laid.
-/
import Derived.Test.YtibmemaciahofaaDoorContLaw
import Derived.Test.YtibmemaciahofaaDoorOutInts
import Derived.Test.YtibmemaciahofaaDoorOutKnown
import Derived.Test.YtibmemaciahofaaDoorMask
import Derived.Deep.AppendLies
namespace Go.Proofs.YtibmemaciahofaaDoor
open Go.RowKit Doc Cont
set_option linter.unusedVariables false
attribute [local go_sem ↓] Go.wp_at_zero Go.wp_at_succ

/-- a digit of six, by a mask and a remainder -/
theorem six_of (n : Int) : ∃ (M : Int) (q : Nat), bits BinOp.and IntKind.i64 n 7 = M ∧ M.tmod 6 = (q : Int) ∧ q < 6 := by
  have h1 := mask_i64 3 (by decide) n 7 (by decide)
  have h2 : (2 : Int) ^ 3 = 8 := by decide
  rw [h2] at h1
  have h3 := Int.emod_nonneg n (show (8 : Int) ≠ 0 by decide)
  have h4 := Int.emod_lt_of_pos n (show (0 : Int) < 8 by decide)
  refine ⟨n % 8, (n % 8 % 6).toNat, h1, ?_, ?_⟩
  · rw [Int.tmod_eq_emod_of_nonneg h3]; omega
  · omega
/-- the name that is picked -/
theorem name_of (q : Nat) (hq : q < 6) : ∃ S : ByteArray, (∀ h : q < ([.string ⟨#[97]⟩, .string ⟨#[98]⟩, .string ⟨#[97, 32, 50]⟩, .string ⟨#[]⟩, .string ⟨#[97, 95, 50]⟩, .string ⟨#[38]⟩] : List Value).length, ([.string ⟨#[97]⟩, .string ⟨#[98]⟩, .string ⟨#[97, 32, 50]⟩, .string ⟨#[]⟩, .string ⟨#[97, 95, 50]⟩, .string ⟨#[38]⟩] : List Value)[q]'h = .string S) ∧ S.size ≤ 3 := by
  rcases q with _ | _ | _ | _ | _ | _ | q
  · exact ⟨⟨#[97]⟩, fun _ => rfl, by decide⟩
  · exact ⟨⟨#[98]⟩, fun _ => rfl, by decide⟩
  · exact ⟨⟨#[97, 32, 50]⟩, fun _ => rfl, by decide⟩
  · exact ⟨⟨#[]⟩, fun _ => rfl, by decide⟩
  · exact ⟨⟨#[97, 95, 50]⟩, fun _ => rfl, by decide⟩
  · exact ⟨⟨#[38]⟩, fun _ => rfl, by decide⟩
  · omega
theorem sq_no {a b : ByteArray} (h : a.data.toList ≠ b.data.toList) : (a.toList == b.toList) = false := by
  rw [ByteArray.toList_eq, ByteArray.toList_eq]; simpa using h
theorem IsInts.at' {W : World} {a : Option Addr} {len cap : Nat} {zs : List Int} (h : IsInts W a len cap zs) {i : Nat} (hi : i < len) : ∃ x, a = some x ∧ x.block < W.heap.size ∧ W.cell? (x.add i) = some (.int .i64 (zs.getD i 0)) := by
  rcases h with ⟨_, h, _⟩ | ⟨y, hy, h1, h2, h3, h4, _⟩
  · omega
  · have h5 := h4 i (by omega)
    have := World.block_lt_of_cell? W _ h5
    rw [add_block] at this
    exact ⟨y, hy, this, h5⟩
theorem IsInts.max {W : World} {a : Option Addr} {len cap : Nat} {zs : List Int} (h : IsInts W a len cap zs) : len ≤ 9223372036854775807 := by
  rcases h with ⟨_, h, _⟩ | ⟨y, hy, h1, h2, h3, h4, _⟩
  · omega
  · have : maxLen = 9223372036854775807 := rfl
    omega

/-- a heading, ahead of its append -/
theorem head_step {wr w : World} {v : Value} {B : Bls} (hO : blsS.own 50 (fun _ => False) w.heap.size wr v B) (hw : w.heap.size ≤ wr.heap.size) (l : Int) (S : ByteArray) (V : World) (hV : Below wr.heap.size wr V) :
    Calls Tryd.prog 24 #[.int .i64 l, .string S] V fun e w1 => ∃ g, e = .returned (.agg #[.int .i64 1, .int .i64 l, .string ⟨#[]⟩, .slice (some ⟨g, 0, none⟩) 1 1, .slice none 0 0]) ∧ Below wr.heap.size wr w1 ∧
      blsS.own 50 (fun _ => False) w.heap.size (w1.alloc (.cells #[.int .i64 1, .int .i64 l, .string ⟨#[]⟩, .slice (some ⟨g, 0, none⟩) 1 1, .slice none 0 0] 50)) v B ∧
      blsS.src (Shp.kind (fun _ => False) w.heap.size v) (w1.alloc (.cells #[.int .i64 1, .int .i64 l, .string ⟨#[]⟩, .slice (some ⟨g, 0, none⟩) 1 1, .slice none 0 0] 50)) (.slice (some ⟨w1.heap.size, 0, none⟩) 1 1) (.cons 1 l ⟨#[]⟩ (oneText S) .nil .nil) :=
  (heading_any l S V).mono fun e w1 ⟨g, he, hb, hh⟩ => by
    have hz := hV.size
    have h1 := below_then hV hb
    have hlt := hO.lt
    refine ⟨g, he, h1, (hO.below h1).below (below_new0 _ _), src_bls ?_ ?_⟩
    · exact insS.sl_on hh.sl (Kept.mono fun j hj _ => ⟨.inr (by omega), fun e => by have := (hlt j e).2; omega⟩)
    · exact ⟨_, _, rfl, Nat.le_refl _, Nat.zero_le _, fun _ => rfl, .inl rfl⟩

set_option maxRecDepth 20000 in
set_option maxHeartbeats 2000000 in
theorem law_numbers (a : Option Addr) (len cap : Nat) (zs : List Int) (a' : Option Addr) (len' cap' : Nat) (zs' : List Int) (w : World) (hz : IsInts w a len cap zs) (hz' : IsInts w a' len' cap' zs') (ht : Tab w) :
    Calls Tryd.prog 8 #[.slice a len cap, .slice a' len' cap'] w fun e w' => e = .returned (.bool true) ∧ Below w.heap.size w w' := by
  have HT := Lib.hid ht
  have HZ := Lib.hid hz
  have HZ' := Lib.hid hz'
  have hlm := hz.max
  have hlm' := hz'.max
  clear ht hz hz'
  go_enter Tryd.func8, Tryd.ntmps8
  go_wp2_with fail
  go_loopg [5, 6, 7] 15 (fun g s5 s6 s7 wr => ∃ (B : Bls) (i : Nat), B.len = i ∧ i ≤ len ∧ i ≤ 14 ∧ 14 < i + g ∧ s6 = .int .i64 i ∧ heads B ∧ B.size ≤ 2 * i ∧ B.bulk ≤ 6 * i ∧ Below w.heap.size w wr ∧ blsS.own 50 (fun _ => False) w.heap.size wr s5 B)
  case atStart => exact ⟨.nil, 0, rfl, by omega, by omega, by omega, rfl, trivial, by simp [Bls.size], by simp [Bls.bulk], Below.refl _ _, Shp.own.nil⟩
  case round =>
    obtain ⟨B, i, hBl, hil, hi14, hg, rfl, hhd, hbs, hbb, hb, hown⟩ := hrel
    have HO := Lib.hid hown
    have HHD := Lib.hid hhd
    have HBL := Lib.hid hBl
    have HBS := Lib.hid hbs
    have HBB := Lib.hid hbb
    have HB := Lib.hid hb
    clear hown hhd hBl hbs hbb hb
    by_cases hgo : i < len ∧ i < 14
    · obtain ⟨h1, h2⟩ := hgo
      have g1 : decide ((i : Int) < (len : Int)) = true := by simp; omega
      have g2 : decide ((i : Int) < 14) = true := by simp; omega
      obtain ⟨x, rfl, hx, hc⟩ := (HZ.out.below HB.out).at' h1
      generalize zs.getD i 0 = lv0 at hc
      go_upto_if 26 with fail
      go_cut [7] from 23 to 30 (fun s7 wc => wr = wc ∧ ∃ kv : Int, s7 = .int .i64 kv)
      case first =>
        by_cases h3 : i < len'
        · obtain ⟨x', rfl, hx', hc'⟩ := (HZ'.out.below HB.out).at' h3
          generalize zs'.getD i 0 = kv at hc'
          have g3 : decide ((i : Int) < (len' : Int)) = true := by simp; omega
          go_wp2_with fail
          go_meet
          case rel => exact ⟨rfl, kv, rfl⟩
        · have g3 : decide ((i : Int) < (len' : Int)) = false := by simp; omega
          go_wp2_with fail
          go_meet
          case rel => exact ⟨rfl, 0, rfl⟩
      case rest =>
        obtain ⟨rfl, kv, rfl⟩ := hcut
        go_wp2_with fail
        obtain ⟨M1, q1, e1, e2, e3⟩ := six_of lv0
        obtain ⟨M2, q2, e4, e5, e6⟩ := six_of kv
        have e7 : IntKind.i64.wrap (1 + (q1 : Int)) = 1 + (q1 : Int) := IntWalk.i64_in _ (by omega)
        have e8 : (q2 : Int) < 6 := by omega
        obtain ⟨S, hS, hS3⟩ := name_of q2 e6
        have hc2 : (wr.alloc (.cells #[.string ⟨#[97]⟩, .string ⟨#[98]⟩, .string ⟨#[97, 32, 50]⟩, .string ⟨#[]⟩, .string ⟨#[97, 95, 50]⟩, .string ⟨#[38]⟩] 9)).cell? (x.add i) = some (.int .i64 lv0) :=
          ((below_new0 wr _).cell (p := x.add i) (by rw [add_block]; exact hx)).trans hc
        have hww : w.heap.size ≤ wr.heap.size := HB.out.size
        have hlL : blsS.len B = i := HBL.out
        have HLL := Lib.hid hlL
        clear hlL
        go_region_law (first
          | (refine step_append_shp blsS tyB _ (by rfl) _ _ (by rfl) HOA.out (by rfl) HSR.out (by rfl) (by rw [HLL.out]; show (i + 1) * 81 ≤ _; omega) (by simp; omega) ?_; intro v' w5 hown' hgrow hbel hkd)
          | (go_simp; go_at_call 24; (with_reducible refine (head_step HO.out hww (1 + (q1 : Int)) S _ (by exact ((Below.refl _ _).alloc (Nat.le_refl _) _).drew)).mono ?_); rintro e w1 ⟨g4, rfl, hb4, how4, hsr4⟩; have hzz := hb4.size; have HSR := Lib.hid hsr4; have HOA := Lib.hid how4; have HBW := Lib.hid hb4; clear hsr4 how4 hb4))
        all_goals
          have hb5 := hbel _ (below_then HB.out (below_then HBW.out (below_new0 w1 _)))
          have HO5 := Lib.hid hown'
          clear hown' hgrow hbel hkd
          go_wp2_with fail
          go_roundg (14 - i)
          case measure => omega
          case rel =>
            have hs := HBS.out
            have hbb := HBB.out
            refine ⟨B.app (.cons 1 (1 + (q1 : Int)) ⟨#[]⟩ (oneText S) .nil .nil), i + 1, by rw [Bls.len_app, HBL.out]; rfl, by omega, by omega, by omega, by go_num, heads_app.2 ⟨HHD.out, rfl, trivial⟩, ?_, ?_, hb5, HO5.out⟩
            · rw [Bls.size_app]; simp only [Bls.size, Ins.size, oneText]; omega
            · have h0 : (⟨#[]⟩ : ByteArray).size = 0 := rfl
              rw [Bls.bulk_app]; simp only [Bls.bulk, Ins.bulk, oneText]; omega
    · have hstop : (decide ((i : Int) < (len : Int)) = true ∧ i < len ∧ decide ((i : Int) < 14) = false ∧ ¬ i < 14) ∨ (decide (i < len) = false ∧ ¬ i < len) := by
        by_cases h1 : i < len
        · exact .inl ⟨by simp; omega, h1, by simp; omega, by omega⟩
        · exact .inr ⟨by simp; omega, h1⟩
      have hs := HBS.out
      have hbb := HBB.out
      obtain ⟨bp, bc, rfl⟩ := HO.out.form
      have hlB : blsS.len B = B.len := rfl
      have hC := cont_any _ B bp bc wr (by omega) (by omega) HO.out.sl (HT.out.on HB.out)
      have hcl : (cont B).length = i := by have := contF_heads B [] HHD.out; rw [HBL.out] at this; simpa [cont] using this
      have htold := told_cont B
      have hnne := num_ne (cont B) htold
      have hdots := dots_le (cont B) htold
      rw [hcl] at hC htold hnne hdots
      rw [hlB, HBL.out]
      rw [HBL.out] at hC
      have HC := Lib.hid hC
      have HTO := Lib.hid htold
      have HNN := Lib.hid hnne
      have HDO := Lib.hid hdots
      have HCL := Lib.hid hcl
      clear hC htold hnne hdots hcl hlB hgo
      rcases hstop with ⟨g1, g11, g2, g22⟩ | ⟨g1, g11⟩
      all_goals
        go_wp2_with fail
        refine HC.out.mono ?_
        rintro e w1 ⟨xp, xc, rfl, hb1, hx⟩
        obtain ⟨he, -, hx1, hx2⟩ := Ents.of hx
        have HE := Lib.hid he
        have HB1 := Lib.hid (below_then HB.out hb1)
        clear hx he hb1
        go_wp2_with fail
        go_loopg [9, 10, 11, 12] (i + 1) (fun g s9 s10 s11 s12 wr => ∃ j : Nat, j ≤ i ∧ i < j + g ∧ s9 = .int .i64 j ∧ Below w1.heap.size w1 wr)
        case atStart => exact ⟨0, by omega, by omega, rfl, Below.refl _ _⟩
        case round =>
          obtain ⟨wo, hwo⟩ : ∃ wo, wo = wr := ⟨_, rfl⟩
          subst hwo
          obtain ⟨j, hj1, hj2, rfl, hbj⟩ := hrel
          by_cases hji : j < i
          · have gj : decide ((j : Int) < (i : Int)) = true := by simp; omega
            have hjl : j < (cont B).length := by rw [HCL.out]; exact hji
            have htj := HTO.out j hji
            have hdj := HDO.out j hji
            have hub := par_bd (cont B) ((cont B).getD j default).lv j
            have HTJ := Lib.hid htj
            have HBJ := Lib.hid hbj
            have HJ2 := Lib.hid hj2
            have hej := (HE.out.below hbj)
            have HEJ := Lib.hid hej
            clear htj hbj hj2 hej hub
            go_wp2_with fail
            go_loopg [10, 11] (j + 1) (fun g s10 s11 wr => ∃ k : Nat, k ≤ j ∧ j < k + g ∧ s11 = .int .i64 k ∧ s10 = .int .i64 (par (cont B) ((cont B).getD j default).lv k) ∧ Below wo.heap.size wo wr)
            case atStart => exact ⟨0, by omega, by omega, rfl, rfl, Below.refl _ _⟩
            case round =>
              obtain ⟨k, hk1, hk2, rfl, rfl, hbk⟩ := hrel
              obtain ⟨U, hU⟩ : ∃ U, U = par (cont B) ((cont B).getD j default).lv k := ⟨_, rfl⟩
              have hub := par_bd (cont B) ((cont B).getD j default).lv k
              rw [← hU] at hub ⊢
              have HU := Lib.hid hU
              have HBK := Lib.hid hbk
              have HK2 := Lib.hid hk2
              have hE := HEJ.out.below hbk
              have hzk := hbk.size
              obtain ⟨b, o, rfl, hbl, d0, d1, d2, d3⟩ := hE.at hjl
              generalize hnj : ((cont B).getD j default).num = nj at d1
              generalize haj : ((cont B).getD j default).anc = aj at d3
              generalize hlj : ((cont B).getD j default).lv = lj at d0
              have HNJ := Lib.hid hnj
              have HAJ := Lib.hid haj
              have HLJ := Lib.hid hlj
              clear hU hbk hk2 d2 hnj haj hlj
              by_cases hkj : k < j
              · have gk : decide ((k : Int) < (j : Int)) = true := by simp; omega
                have hkl : k < (cont B).length := by omega
                obtain ⟨b', o', e', hbl', c0, c1, c2, c3⟩ := hE.at hkl
                injection e' with e'
                injection e' with e1 e2
                subst e1 e2
                have hn := HNN.out j k hkj hji
                have ha := HTJ.out.anc k hkj
                unfold nm at hn
                rw [HNJ.out] at hn
                rw [HAJ.out] at ha
                generalize hnk : ((cont B).getD k default).num = nk at c1 hn
                generalize hak : ((cont B).getD k default).anc = ak at c3 ha
                generalize hlk : ((cont B).getD k default).lv = lk at c0
                have sn := sq_no hn
                have sa := sq_no ha
                have HLK := Lib.hid hlk
                clear hE hkl hn ha hnk hak hlk c2 hbl'
                go_upto_region 19 with fail
                go_cut [89] from 66 to 89 (fun s89 wc => s89 = .bool false ∧ Below wr.heap.size wr wc)
                case first =>
                  clear HT HZ HZ' HO HHD HBL HBS HBB HB HC HTO HNN HDO HCL HE HB1 HTJ HBJ HJ2 HEJ HU HBK HK2 HNJ HAJ HLJ HLK
                  refine wp_region_gr (by kernel_rfl) (by kernel_rfl) ?_
                  repeat (go_big_quiet_step (fail))
                  with_reducible refine wpQuiet_nil ?_
                  intro _ hw'; obtain ⟨w6, hw''⟩ := hw'; subst hw''
                  have B6 := gr_below wr w6
                  go_wp2_with fail
                  go_meet
                  case rel => exact ⟨rfl, B6⟩
                case rest =>
                  obtain ⟨rfl, hbc⟩ := hcut
                  have f0 := (hbc.cell (p := ⟨b, o + k * 4, none⟩) hbl).trans c0
                  have f1 := (hbc.cell (p := ⟨b, o + j * 4, none⟩) hbl).trans d0
                  have hbl2 : b < wc.heap.size := Nat.lt_of_lt_of_le hbl hbc.size
                  have HBC := Lib.hid (below_then HBK.out hbc)
                  clear c0 c1 c3 d0 d1 d3 hbc sn sa
                  go_upto_region 21 with fail
                  obtain ⟨wp, hwp⟩ : ∃ wp, wp = wc := ⟨_, rfl⟩
                  subst hwp
                  go_cut [100] from 90 to 100 (fun s100 wc => s100 = .bool (decide (lk < lj)) ∧ Below wp.heap.size wp wc)
                  case first =>
                    clear HT HZ HZ' HO HHD HBL HBS HBB HB HC HTO HNN HDO HCL HE HB1 HTJ HBJ HJ2 HEJ HU HBK HK2 HNJ HAJ HLJ HLK HBC
                    refine wp_region_gr (by kernel_rfl) (by kernel_rfl) ?_
                    repeat (go_big_quiet_step (fail))
                    with_reducible refine wpQuiet_nil ?_
                    intro _ hw'; obtain ⟨w6, hw''⟩ := hw'; subst hw''
                    have B6 := gr_below wp w6
                    go_wp2_with fail
                    go_meet
                    case rel => exact ⟨rfl, B6⟩
                  case rest =>
                    obtain ⟨rfl, hbd⟩ := hcut
                    have hb3 := below_then HBC.out hbd
                    by_cases hlt : lk < lj
                    · have gl : decide (lk < lj) = true := by simpa using hlt
                      go_wp2_with fail
                      go_roundg (j - k)
                      case measure => have := HK2.out; omega
                      case rel =>
                        refine ⟨k + 1, by omega, by omega, by go_num, ?_, hb3⟩
                        rw [par, HLK.out, HLJ.out, if_pos hlt]
                    · have gl : decide (lk < lj) = false := by simpa using hlt
                      go_wp2_with fail
                      go_roundg (j - k)
                      case measure => have := HK2.out; omega
                      case rel =>
                        refine ⟨k + 1, by omega, by omega, by go_num, ?_, hb3⟩
                        rw [par, HLK.out, HLJ.out, if_neg (by omega), ← HLJ.out, HU.out]
              · have gk : decide (k < j) = false := by simp; omega
                have hkj2 : k = j := by omega
                have hup : U = up (cont B) j := by rw [HU.out, hkj2]; rfl
                have hdd : Lib.countByte nj.data.toList 46 = dots (cont B) j := by rw [← HNJ.out]; rfl
                have hnl := nm_len (cont B) (fun x hx => HTO.out x (by rw [← HCL.out]; exact hx)) (by rw [HCL.out]; omega)
                have hCJ := fun W => Tryd.strings_Count_one nj 46 W
                rw [hdd] at hCJ
                by_cases hu : U < 0
                · have hu1 : U = -1 := by omega
                  have hd0 := dots_zero HTJ.out (by rw [← hup]; exact hu)
                  rw [hd0] at hCJ
                  have HCJ : Hid (∀ W, Calls Tryd.prog 25 #[.string nj, .string ⟨#[46]⟩] W fun e w' => e = .returned (.int .i64 0) ∧ w' = W) := Lib.hid hCJ
                  clear hup hdd hnl hCJ hd0 hu hE
                  subst hu1
                  go_wp2_with fail
                  refine (HCJ.out _).mono ?_
                  rintro e w8 ⟨rfl, rfl⟩
                  go_upto_region 24 with fail
                  obtain ⟨wp, hwp⟩ : ∃ wp, wp = w8 := ⟨_, rfl⟩
                  subst hwp
                  go_cut [143] from 108 to 143 (fun s143 wc => s143 = .bool false ∧ Below wp.heap.size wp wc)
                  case first =>
                    clear HT HZ HZ' HO HHD HBL HBS HBB HB HC HTO HNN HDO HCL HE HB1 HTJ HBJ HJ2 HEJ HU HBK HK2 HNJ HAJ HLJ HCJ
                    refine wp_region_gr (by kernel_rfl) (by kernel_rfl) ?_
                    repeat (go_big_quiet_step (fail))
                    with_reducible refine wpQuiet_nil ?_
                    intro _ hw'; obtain ⟨w6, hw''⟩ := hw'; subst hw''
                    have B6 := gr_below wp w6
                    go_wp2_with fail
                    go_meet
                    case rel => exact ⟨rfl, B6⟩
                  case rest =>
                    obtain ⟨rfl, hbc⟩ := hcut
                    have hb3 := below_then HBJ.out (below_then HBK.out hbc)
                    go_wp2_with fail
                    go_roundg (i - j)
                    case measure => have := HJ2.out; omega
                    case rel => exact ⟨j + 1, by omega, by omega, by go_num, hb3⟩
                · obtain ⟨u, hu1⟩ : ∃ u : Nat, U = u := ⟨U.toNat, by omega⟩
                  have huj : u < j := by omega
                  have hupu : (up (cont B) j).toNat = u := by rw [← hup, hu1]; rfl
                  have hdu := dots_up HTJ.out (by rw [← hup]; exact hu)
                  have hpre := pre_up HTJ.out (by rw [← hup]; exact hu)
                  rw [hupu] at hdu hpre
                  have hul : u < (cont B).length := by omega
                  have hns := hnl u hul
                  obtain ⟨b', o', e', hbl', c0, c1, c2, c3⟩ := hE.at hul
                  injection e' with e'
                  injection e' with e1 e2
                  subst e1 e2
                  have hnu : ∃ nu, ((cont B).getD u default).num = nu := ⟨_, rfl⟩
                  obtain ⟨nu, hnu⟩ := hnu
                  have hnmu : nm (cont B) u = nu.data.toList := by rw [← hnu]; rfl
                  have hnmj : nm (cont B) j = nj.data.toList := by rw [← HNJ.out]; rfl
                  rw [hnu] at c1
                  have hdn : Lib.countByte nu.data.toList 46 = dots (cont B) u := by rw [← hnmu]; rfl
                  have hdb := HDO.out u (by omega)
                  generalize dots (cont B) u = du at hdu hdn hdb
                  rw [hdu] at hCJ
                  have hCU := fun W => Tryd.strings_Count_one nu 46 W
                  rw [hdn] at hCU
                  have hHP := fun W => Tryd.strings_HasPrefix nj (nu ++ ⟨#[46]⟩) W
                  have hpv : Lib.hasPrefix nj.data.toList (nu ++ (⟨#[46]⟩ : ByteArray)).data.toList = true := by
                    rw [hnmu, hnmj] at hpre
                    simpa [Lib.hasPrefix] using hpre
                  rw [hpv] at hHP
                  rw [hnmu] at hns
                  have hnsz : nu.size ≤ 60 := by simp at hns; omega
                  have e0 : ((1 + du : Nat) : Int) = 1 + (du : Int) := by omega
                  have HCJ : Hid (∀ W, Calls Tryd.prog 25 #[.string nj, .string ⟨#[46]⟩] W fun e w' => e = .returned (.int .i64 (1 + (du : Int))) ∧ w' = W) := Lib.hid (fun W => by have := hCJ W; rw [e0] at this; exact this)
                  clear hup hdd hnl hCJ hu hE hupu hdu hpre hul hns e0 hpv hnu hnmu hnmj hdn c0 c2 c3 hbl'
                  subst hu1
                  go_wp2_with fail
                  refine (HCJ.out _).mono ?_
                  rintro e w8 ⟨rfl, rfl⟩
                  have g5 : decide ((u : Int) < 0) = false := by simp
                  have g6 : decide (0 ≤ (u : Int)) = true := by simp
                  have g7 : IntKind.i64.wrap (1 + (du : Int)) = 1 + (du : Int) := IntWalk.i64_in _ (by omega)
                  have g8 : ((1 + (du : Int)) != (1 + (du : Int))) = false := by simp
                  go_upto_region 24 with fail
                  obtain ⟨wp, hwp⟩ : ∃ wp, wp = w8 := ⟨_, rfl⟩
                  subst hwp
                  go_cut [143] from 108 to 143 (fun s143 wc => s143 = .bool false ∧ Below wp.heap.size wp wc)
                  case first =>
                    have hC1 := fun x => gr_same (w0 := wp) (w1 := x) ((hCU (gr wp x)).mono fun e w' h => ⟨h.1, h.2.symm⟩)
                    have hC2 := fun x => gr_same (w0 := wp) (w1 := x) ((hHP (gr wp x)).mono fun e w' h => ⟨h.1, h.2.symm⟩)
                    clear HT HZ HZ' HO HHD HBL HBS HBB HB HC HTO HNN HDO HCL HE HB1 HTJ HBJ HJ2 HEJ HU HBK HK2 HNJ HAJ HLJ HCJ
                    refine wp_region_gr (by kernel_rfl) (by kernel_rfl) ?_
                    repeat (go_big_quiet_step (first | (go_at_call 25; exact hC1 _) | (go_at_call 26; exact hC2 _)))
                    with_reducible refine wpQuiet_nil ?_
                    intro _ hw'; obtain ⟨w6, hw''⟩ := hw'; subst hw''
                    have B6 := gr_below wp w6
                    go_wp2_with fail
                    go_meet
                    case rel => exact ⟨rfl, B6⟩
                  case rest =>
                    obtain ⟨rfl, hbc⟩ := hcut
                    have hb3 := below_then HBJ.out (below_then HBK.out hbc)
                    go_wp2_with fail
                    go_roundg (i - j)
                    case measure => have := HJ2.out; omega
                    case rel => exact ⟨j + 1, by omega, by omega, by go_num, hb3⟩
          · have gj : decide (j < i) = false := by simp; omega
            go_wp2_with fail
            refine (known_any _ (HT.out.on (below_then HB1.out hbj))).mono ?_
            rintro e w9 ⟨rfl, hb9⟩
            go_wp2_with fail
            go_ret
            exact ⟨rfl, below_then (below_then HB1.out hbj) hb9⟩
end Go.Proofs.YtibmemaciahofaaDoor
