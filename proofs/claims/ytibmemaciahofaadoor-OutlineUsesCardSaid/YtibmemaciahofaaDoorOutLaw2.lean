/-
  The law OutlineUses, walked. Condition: the library's table of powers of ten as it is laid.
-/
import Derived.Test.YtibmemaciahofaaDoorOutTree
import Derived.Test.YtibmemaciahofaaDoorOutKnown
namespace Go.Proofs.YtibmemaciahofaaDoor
open Go.RowKit Doc Note
set_option linter.unusedVariables false
attribute [local go_sem ↓] Go.wp_at_zero Go.wp_at_succ

theorem tot_le (L : List Nt) (i : Nat) : tot L i ≤ total L := by
  have : tot L i + ((L.drop i).map fun n => n.uses.length).sum = total L := by
    unfold tot total
    rw [← List.sum_append, ← List.map_append, List.take_append_drop]
  omega
theorem str_self (a : ByteArray) : (a.toList == a.toList) = true := by simp
/-- what a walk over the notes reads -/
def NF (W : World) (np : Option Addr) (NN : List Nt) : Prop := ∀ i, i < NN.length → ∃ r gi uc, np = some ⟨r, 0, none⟩ ∧ r < W.heap.size ∧ gi < W.heap.size ∧
  W.cell? ⟨r, i * 3, none⟩ = some (.string (NN.getD i default).name) ∧ W.cell? ⟨r, i * 3 + 2, none⟩ = some (.slice (some ⟨gi, 0, none⟩) (NN.getD i default).uses.length uc) ∧
  ∀ k, k < (NN.getD i default).uses.length → W.cell? ⟨gi, k, none⟩ = some (.int .i64 (((NN.getD i default).uses.getD k 0 : Nat) : Int))
theorem NF.below {W V : World} {np : Option Addr} {NN : List Nt} (h : NF W np NN) (hb : Below W.heap.size W V) : NF V np NN := fun i hi => by
  obtain ⟨r, gi, uc, h1, h2, h3, h4, h5, h6⟩ := h i hi
  exact ⟨r, gi, uc, h1, Nat.lt_of_lt_of_le h2 hb.size, Nat.lt_of_lt_of_le h3 hb.size, (hb.cell (p := ⟨r, i * 3, none⟩) h2).trans h4, (hb.cell (p := ⟨r, i * 3 + 2, none⟩) h2).trans h5, fun k hk => (hb.cell (p := ⟨gi, k, none⟩) h3).trans (h6 k hk)⟩
theorem NF.of {q : Nat → Prop} {B : Nat} {W : World} {p : Option Addr} {c : Nat} {NN : List Nt} {I U : Nat → Value} (h : NRow q B W (.slice p NN.length c) NN I U) (hne : ∀ j, j < NN.length → 0 < (NN.getD j default).uses.length) : NF W p NN := fun i hi => by
  obtain ⟨r, c', e⟩ := h.form (by omega)
  injection e with e1 e2 e3
  subst e1 e3
  obtain ⟨h1, h2, h3, h4, h5, h6⟩ := h.cells hi
  obtain ⟨g, uc, e, hg, hcs⟩ := use_cells (h.use i hi) (hne i hi)
  rw [e] at h3
  exact ⟨r, g, uc, rfl, h4, hg, h1, h3, hcs⟩
/-- what a walk over the marks reads -/
def MF (W : World) (mp : Option Addr) (M : Ins) : Prop := ∀ j, j < M.len → ∃ b o, mp = some ⟨b, o, none⟩ ∧ b < W.heap.size ∧ W.cell? ⟨b, o + j * 6 + 1, none⟩ = some (.string (M.txt j))
theorem MF.below {W V : World} {mp : Option Addr} {M : Ins} (h : MF W mp M) (hb : Below W.heap.size W V) : MF V mp M := fun j hj => by
  obtain ⟨b, o, h1, h2, h3⟩ := h j hj
  exact ⟨b, o, h1, Nat.lt_of_lt_of_le h2 hb.size, (hb.cell (p := ⟨b, o + j * 6 + 1, none⟩) h2).trans h3⟩
theorem MF.of {q : Nat → Prop} {W : World} {p : Option Addr} {c : Nat} {M : Ins} (h : insS.sl q W (.slice p M.len c) M) : MF W p M := fun j hj => by
  obtain ⟨b, o, h1, h2, h3⟩ := sl_txt h (by omega)
  exact ⟨b, o, h1, h2, h3 j hj⟩

set_option maxRecDepth 20000 in
set_option maxHeartbeats 2000000 in
theorem law_uses (a : Option Addr) (len cap : Nat) (zs : List Int) (w : World) (hz : IsInts w a len cap zs) (ht : Tab w) :
    Calls Tryd.prog 6 #[.slice a len cap] w fun e w' => e = .returned (.bool true) ∧ Below w.heap.size w w' := by
  have HT := Lib.hid ht
  have hN := newT a len cap zs w hz
  clear ht hz
  go_enter Tryd.func6, Tryd.ntmps6
  go_wp2_with fail
  refine hN.mono ?_
  rintro e w1 ⟨g, rfl, hg, hb1, tp⟩
  have hB := bls_2 g w1 tp
  clear hN tp
  go_wp2_with fail
  refine hB.mono ?_
  rintro e w2 ⟨p, c, L, rfl, hLt, hLs, ts, hsl⟩
  have hb2 : Below w.heap.size w w2 := hb1.trans (ts.st.below.mono hg)
  have hMk := marksB_any _ _ L p c w2 (Nat.lt_succ_self _) (by omega) hsl
  have hbulk := L.tiny_bulk hLt
  have hfit := L.fit_bulk (by omega)
  have HSL := Lib.hid hsl
  have HFT := Lib.hid hfit
  clear hB ts hLt hbulk hsl hfit
  go_wp2_with fail
  refine hMk.mono ?_
  rintro e w3 ⟨mp, mc, rfl, hb3, hm⟩
  have hNo := notes_any _ L p c w3 (by omega) (blsS.sl_on HSL.out (Kept.below hb3)) HFT.out
  have hgood := good_notes L.marks
  have htot := total_notes L.marks
  have hmsz := L.marks_size
  have hmle := L.marks.len_size
  have hnb : (notes L.marks).length ≤ 0 + L.marks.len := notesF_len L.marks [] 0
  obtain ⟨NN, hNN⟩ : ∃ NN, NN = notes L.marks := ⟨_, rfl⟩
  rw [← hNN] at hNo hgood htot hnb
  obtain ⟨M, hM⟩ : ∃ M, M = L.marks := ⟨_, rfl⟩
  rw [← hM] at hm hgood htot hmsz hmle hnb ⊢
  clear hMk hNN hM HSL HFT
  go_wp2_with fail
  refine hNo.mono ?_
  rintro e w4 ⟨v, I, U, B, rfl, hb4, hrow⟩
  obtain ⟨np, nc, rfl⟩ := hrow.len
  have hNF := NF.of hrow hgood.ne
  have hMF := (MF.of hm).below hb4
  have hbw : Below w.heap.size w w4 := below_then (below_then hb2 hb3) hb4
  obtain ⟨nn, hnn⟩ : ∃ nn, nn = NN.length := ⟨_, rfl⟩
  obtain ⟨ml, hml⟩ : ∃ ml, ml = M.len := ⟨_, rfl⟩
  rw [← hnn, ← hml]
  rw [← hnn, ← hml] at hnb
  have htn := tot_all NN
  rw [← hnn, htot, ← hml] at htn
  have HNF := Lib.hid hNF
  have HMF := Lib.hid hMF
  have HG := Lib.hid hgood
  have HNN := Lib.hid hnn
  have HML := Lib.hid hml
  have HTN := Lib.hid htn
  have HBW := Lib.hid hbw
  have hmb : ml ≤ 1300 := by omega
  clear hNo hrow hm hNF hMF hgood hnn hml htn hbw hb1 hb2 hb3 hb4 hmsz hmle htot
  go_wp2_with fail
  go_loopg [6, 7, 8, 9, 10] (nn + 1) (fun m s6 s7 s8 s9 s10 wr => ∃ i cn la : Nat, i ≤ nn ∧ nn < i + m ∧ cn = tot NN i ∧ la = (if i = 0 then 0 else (NN.getD (i - 1) default).uses.getD 0 0) ∧ s8 = .int .i64 i ∧ s6 = .int .i64 cn ∧ s7 = .int .i64 la ∧ Below w4.heap.size w4 wr)
  case atStart => exact ⟨0, 0, 0, by omega, by omega, by simp [tot], rfl, rfl, rfl, rfl, Below.refl _ _⟩
  case round =>
    obtain ⟨i, cn, la, hin, him, hcn, hla, rfl, rfl, rfl, hb⟩ := hrel
    by_cases hi : i < nn
    · have hi2 : i < NN.length := by rw [← HNN.out]; exact hi
      obtain ⟨r, gi, uc, rfl, hr, hgi, c0, c2, cu⟩ := (HNF.out.below hb) i hi2
      have hsucc := tot_succ NN i hi2
      have hne := HG.out.ne i hi2
      have hone := HG.out.one i hi2
      have huse := HG.out.use i hi2
      have hup := HG.out.up i hi2
      have hhead : la < (NN.getD i default).uses.getD 0 0 := by
        rw [hla]
        split
        · exact (huse 0 hne).1
        · rename_i h0
          have := HG.out.head (i - 1) (by omega)
          rwa [show i - 1 + 1 = i by omega] at this
      have hub := uses_le NN i hi2
      rw [← tot_all, ← HNN.out, HTN.out] at hub
      have hcb := tot_le NN i
      rw [← tot_all, ← HNN.out, HTN.out, ← hcn] at hcb
      have hcb2 : cn ≤ 1300 := by omega
      generalize hx : NN.getD i default = x at c0 c2 cu hsucc hne hone huse hup hhead hub
      obtain ⟨nm, ins, us⟩ := x
      dsimp only at c0 c2 cu hsucc hne hone huse hup hhead hub
      generalize hul : us.length = ul at c2 cu hsucc hne hone huse hup hub
      have cu0 := cu 0 hne
      have hla2 := hla
      generalize hh0 : us.getD 0 0 = h0 at cu0 hhead
      have e1 : ((ul : Int) == 0) = false := by simp; omega
      have e2 : decide ((h0 : Int) ≤ (la : Int)) = false := by rw [decide_eq_false_iff_not]; omega
      have g1 : decide ((i : Int) < (nn : Int)) = true := by simp; omega
      have hub2 : ul ≤ 1300 := by omega
      have HCU := Lib.hid cu
      have HUSE := Lib.hid huse
      have HUP := Lib.hid hup
      have HSU := Lib.hid hsucc
      have HH := Lib.hid hh0
      have HCN := Lib.hid hcn
      have HONE := Lib.hid hone
      have HX := Lib.hid hx
      clear cu huse hup hsucc hh0 hcn hone hla hla2 hul hx
      go_upto_region 7 with fail
      go_cut [58] from 18 to 124 (fun s58 wc => s58 = .bool false ∧ wr = wc)
      case first =>
        by_cases hem : nm.data.toList = []
        · have he := size_nil hem
          have h1 : ul = 1 := HONE.out hem
          clear HCU HUSE HUP HSU HONE
          subst h1
          clear hem
          go_wp2_with fail
          go_meet
          case rel => exact ⟨by rw [decide_eq_false (show ¬ h0 ≤ la by omega)], rfl⟩
        · have he := size_ne hem
          clear hem
          go_wp2_with fail
          go_meet
          case rel => exact ⟨by rw [decide_eq_false (show ¬ h0 ≤ la by omega)], rfl⟩
      case rest =>
        obtain ⟨rfl, rfl⟩ := hcut
        go_wp2_with fail
        go_loopg [6, 9, 10] (ul + 1) (fun m s6 s9 s10 wi => ∃ k ck : Nat, k ≤ ul ∧ ul < k + m ∧ ck = cn + k ∧ s9 = .int .i64 k ∧ s6 = .int .i64 ck ∧ Below wr.heap.size wr wi)
        case atStart => exact ⟨0, cn, by omega, by omega, rfl, rfl, rfl, Below.refl _ _⟩
        case round =>
          obtain ⟨k, ck, hku, hkm, hck, rfl, rfl, hbi⟩ := hrel
          have d0 := (hbi.cell (p := ⟨r, i * 3, none⟩) hr).trans c0
          have d2 := (hbi.cell (p := ⟨r, i * 3 + 2, none⟩) hr).trans c2
          have hbz := hbi.size
          clear c0 c2 cu0
          by_cases hk : k < ul
          · have g2 : decide ((k : Int) < (ul : Int)) = true := by simp; omega
            obtain ⟨u1, u2, u3⟩ := HUSE.out k hk
            have cuk := (hbi.cell (p := ⟨gi, k, none⟩) hgi).trans (HCU.out k hk)
            obtain ⟨x, hx⟩ : ∃ x, us.getD k 0 = x + 1 := ⟨us.getD k 0 - 1, by omega⟩
            have HXK := Lib.hid hx
            rw [hx] at u2 u3 cuk
            rw [Nat.add_sub_cancel] at u3
            have hxm : x < M.len := by omega
            obtain ⟨b, o, hmp, hbl, cm⟩ := ((HMF.out.below hb).below hbi) x hxm
            rw [u3] at cm
            rw [show ((x + 1 : Nat) : Int) = (x : Int) + 1 by omega] at cuk
            rw [← HML.out] at hxm
            subst hmp
            have a1 : decide ((x : Int) + 1 < 1) = false := by rw [decide_eq_false_iff_not]; omega
            have a2 : decide ((ml : Int) < (x : Int) + 1) = false := by rw [decide_eq_false_iff_not]; omega
            have sn := str_self nm
            have hr2 := Nat.lt_of_lt_of_le hr hbz
            have hgi2 := Nat.lt_of_lt_of_le hgi hbz
            clear u1 u2 u3 hx
            go_upto_region 14 with fail
            have hxk : k = 0 ∨ ∃ k', k = k' + 1 ∧ us.getD k' 0 < x + 1 := by
              cases k with
              | zero => exact .inl rfl
              | succ k' => exact .inr ⟨k', rfl, by rw [← HXK.out]; exact HUP.out k' hk⟩
            have HHK := Lib.hid hkm
            have HCK := Lib.hid hck
            clear hkm hck
            go_cut [122] from 66 to 124 (fun s122 wc => s122 = .bool false ∧ Below wr.heap.size wr wc)
            case first =>
              have HCU2 := HCU.out
              clear HNF HMF HG HCU HUSE HUP HSU HH HCN HONE HX HXK HHK HCK HT HBW HTN HNN HML
              have HCU := Lib.hid HCU2
              clear HCU2
              rcases hxk with rfl | ⟨k', rfl, hlt⟩
              · refine wp_region_gr (by kernel_rfl) (by kernel_rfl) ?_
                repeat (go_big_quiet_step (fail))
                with_reducible refine wpQuiet_nil ?_
                intro _ hw'; obtain ⟨w6, hw''⟩ := hw'; subst hw''
                have B6 := gr_below wr w6
                go_wp2_with fail
                go_meet
                case rel => exact ⟨rfl, B6⟩
              · have cup := (hbi.cell (p := ⟨gi, k', none⟩) hgi).trans (HCU.out k' (by omega))
                generalize us.getD k' 0 = u' at cup hlt
                have a3 : decide ((x : Int) + 1 ≤ (u' : Int)) = false := by rw [decide_eq_false_iff_not]; omega
                have a4 : decide ((0 : Int) < (k' : Int) + 1) = true := by rw [decide_eq_true_eq]; omega
                refine wp_region_gr (by kernel_rfl) (by kernel_rfl) ?_
                repeat (go_big_quiet_step (fail))
                with_reducible refine wpQuiet_nil ?_
                intro _ hw'; obtain ⟨w6, hw''⟩ := hw'; subst hw''
                have B6 := gr_below wr w6
                go_wp2_with fail
                go_meet
                case rel => exact ⟨rfl, B6⟩
            case rest =>
              obtain ⟨rfl, hbc⟩ := hcut
              have hck9 : ck ≤ 3000 := by have := HCK.out; omega
              have hb3 := below_then hbi hbc
              go_wp2_with fail
              go_roundg (ul - k)
              case measure => have := HHK.out; omega
              case rel => exact ⟨k + 1, ck + 1, by omega, by omega, by have := HCK.out; omega, by go_num, by go_num, hb3⟩
          · have g2 : decide ((k : Int) < (ul : Int)) = false := by simp; omega
            have hk2 : k = ul := by omega
            have hb2 := below_then hb hbi
            go_wp2_with fail
            go_roundg (nn - i)
            case measure => omega
            case rel => exact ⟨i + 1, ck, h0, by omega, by omega, by rw [HSU.out, hck, HCN.out, hk2], by rw [if_neg (by omega), Nat.add_sub_cancel, HX.out]; exact HH.out.symm, by go_num, rfl, rfl, hb2⟩
    · have g1 : decide ((i : Int) < (nn : Int)) = false := by simp; omega
      have hin2 : i = nn := by omega
      have e0 : ((cn : Int) == (ml : Int)) = true := by
        have := HTN.out
        rw [hcn, hin2, this]; simp
      have HT4 := Lib.hid (HT.out.on (below_then HBW.out hb))
      clear hcn hla hin2
      go_wp2_with fail
      refine (known_any _ HT4.out).mono ?_
      rintro e w5 ⟨rfl, hb5⟩
      go_wp2_with fail
      go_ret
      exact ⟨rfl, below_then (below_then HBW.out hb) hb5⟩
end Go.Proofs.YtibmemaciahofaaDoor
