/-
  The reference's list of footnotes. Conditions: those typed in each theorem.
-/
import Derived.Test.YtibmemaciahofaaDoorNoteW
import Derived.Test.YtibmemaciahofaaDoorOutMarks4
namespace Go.Proofs.YtibmemaciahofaaDoor
open Go.RowKit Doc Note
set_option linter.unusedVariables false
attribute [local go_sem ↓] Go.wp_at_zero Go.wp_at_succ

theorem seq_yes {a b : ByteArray} (h : a.data.toList = b.data.toList) : (a.toList == b.toList) = true := by
  rw [ByteArray.toList_eq, ByteArray.toList_eq, h]; simp
theorem seq_no {a b : ByteArray} (h : a.data.toList ≠ b.data.toList) : (a.toList == b.toList) = false := by
  rw [ByteArray.toList_eq, ByteArray.toList_eq]; simpa using h
/-- a row of the call's own, as the source of an append -/
theorem src_own {w : World} {B e n : Nat} {v : Value} {xs : List Value} (h : w.ownsRow B e 1 v n xs) : Src w v n xs := by
  have h2 := fun g (hg : v.ownBlock = some g) => own_at (g := g) h hg
  rcases h.2 with ⟨rfl, h0⟩ | ⟨g, cap, cur, rfl, hb, hg, h3⟩
  · subst h0
    exact ⟨none, 0, rfl, fun _ => ⟨rfl, rfl⟩, fun a ha => by cases ha⟩
  · exact ⟨_, cap, rfl, (fun hp => by cases hp), fun a ha => by obtain rfl := (Option.some.inj ha).symm; exact at_add (h2 g rfl)⟩
/-- where the reference looks a note up: among the first k -/
def fnd (L : List Nt) (t : List UInt8) (k : Nat) : Option Nat := if t = [] then none else plc L t k
theorem fnd_len (L : List Nt) (t : List UInt8) : fnd L t L.length = plcT L t := rfl
theorem fnd_lt {L : List Nt} {t : List UInt8} {k m : Nat} (h : fnd L t k = some m) : m < k := by
  unfold fnd at h
  split at h
  · cases h
  · exact plc_lt _ _ _ _ h
theorem fnd_yes {L : List Nt} {t : List UInt8} {k : Nat} (h0 : t ≠ []) (h : (L.getD k default).name.data.toList = t) : fnd L t (k + 1) = some k := by
  unfold fnd; rw [if_neg h0, plc, if_pos h]
theorem fnd_no {L : List Nt} {t : List UInt8} {k : Nat} (h : t = [] ∨ (L.getD k default).name.data.toList ≠ t) : fnd L t (k + 1) = fnd L t k := by
  unfold fnd
  rcases h with h | h
  · rw [if_pos h, if_pos h]
  · split
    · rfl
    · rw [plc, if_neg h]
/-- a note with its elements, if it had none -/
def fill (x : Nt) (k : Ins) : Nt := ⟨x.name, if x.ins.len = 0 then k else x.ins, x.uses⟩
theorem set_getD (L : List Nt) (m : Nat) (hm : m < L.length) : L.set m (L.getD m default) = L := by
  apply List.ext_getElem?
  intro j
  by_cases e : m = j
  · subst e
    simp [List.getD, hm]
  · rw [List.getElem?_set_ne e]
theorem fill_new {L : List Nt} {m : Nat} {k : Ins} (h : (L.getD m default).ins.len = 0) : fill (L.getD m default) k = ⟨(L.getD m default).name, k, (L.getD m default).uses⟩ := by unfold fill; rw [if_pos h]
theorem fill_old {L : List Nt} {m : Nat} {k : Ins} (h : (L.getD m default).ins.len ≠ 0) : fill (L.getD m default) k = L.getD m default := by unfold fill; rw [if_neg h]
theorem fill_upd {L : List Nt} {m i : Nat} {k : Ins} (hm : m < L.length) :
    (L.set m (fill (L.getD m default) k)).set m ⟨((L.set m (fill (L.getD m default) k)).getD m default).name, ((L.set m (fill (L.getD m default) k)).getD m default).ins, (L.getD m default).uses ++ [i]⟩ = L.set m (upd (L.getD m default) i k) := by
  rw [getD_set _ _ _ _ hm, if_pos rfl, List.set_set]
  rfl

theorem kept_low {P : Nat → Prop} {w1 V W : World} (h1 : Below w1.heap.size w1 V) (h2 : Below w1.heap.size w1 W) : Kept (fun b => P b ∧ b < w1.heap.size) (fun b => P b ∧ b < w1.heap.size) V W := fun b hb _ =>
  ⟨hb, (h2.block b hb.2).trans (h1.block b hb.2).symm⟩

set_option maxRecDepth 20000 in
set_option maxHeartbeats 4000000 in
theorem notesR_any (q : Nat → Prop) (L : Bls) (p : Option Addr) (c : Nat) (w : World) (hM : L.size ≤ 900000) (hv : blsS.sl q w (.slice p L.len c) L) :
    Calls Tryd.prog 23 #[.slice p L.len c] w fun e w' => ∃ v I U B, e = .returned v ∧ Below w.heap.size w w' ∧ NRow (fun b => (q b ∨ w.heap.size ≤ b) ∧ b < B) B w' v (notes L.marks) I U := by
  have hMk := marksR_any _ q L p c w (Nat.lt_succ_self _) (by omega) hv
  have hml := L.marks.len_size
  have hms := L.marks_size
  obtain ⟨ML, hML⟩ : ∃ ML, ML = L.marks := ⟨_, rfl⟩
  rw [← hML] at hMk hml hms ⊢
  have HMk := Lib.hid hMk
  clear hML hMk hv
  go_enter Tryd.func23, Tryd.ntmps23
  go_wp2_with fail
  refine HMk.out.mono ?_
  rintro e w1 ⟨mp, mc, rfl, hb1, hm⟩
  obtain ⟨hF, -, hnc, hc2⟩ := Shp.rest_start hm
  obtain ⟨n, hn⟩ : ∃ n, n = ML.len := ⟨_, rfl⟩
  rw [← hn] at hml hnc ⊢
  have HN := Lib.hid hn
  have HBW := Lib.hid hb1
  clear hn hm hb1
  go_wp2_with fail
  go_loopg [3, 5, 6, 7, 8] (n + 1) (fun g s3 s5 s6 s7 s8 wr => ∃ (A R : Ins) (I U : Nat → Value), A.app R = ML ∧ A.len + R.len = n ∧ R.len < g ∧ s5 = .int .i64 A.len ∧ NRow (fun b => (q b ∨ w.heap.size ≤ b) ∧ b < w1.heap.size) w1.heap.size wr s3 (notesF [] 0 A) I U
    ∧ Below w1.heap.size w1 wr ∧ insS.rest (fun k => q k ∨ w.heap.size ≤ k) w1 mp A.len R)
  case atStart => exact ⟨.nil, ML, fun _ => undef, fun _ => undef, rfl, by simp [Ins.len]; exact HN.out.symm, by rw [← HN.out]; omega, rfl, NRow.nil _ _ (fun b h => h.2) _ _ _, Below.refl _ _, hF⟩
  case round =>
    obtain ⟨wo, hwo⟩ : ∃ wo, wo = wr := ⟨_, rfl⟩
    subst hwo
    obtain ⟨A, R, I, U, hAR, hi1, hg, rfl, hrow, hb, hR⟩ := hrel
    have HAR := Lib.hid hAR
    generalize hi : A.len = i at *
    have HI := Lib.hid hi
    have hcl : (notesF [] 0 A).length ≤ i := by have := notesF_len A [] 0; rw [hi] at this; simpa using this
    clear hAR hi
    cases R with
    | nil =>
      have g1 : decide (i < n) = false := by simp [Ins.len] at hi1; simp; omega
      have HO := Lib.hid hrow
      clear hi1 hR hrow
      go_wp2_with fail
      go_ret
      have e1 : A = ML := by have := HAR.out; simpa using this
      subst e1
      exact ⟨_, I, U, w1.heap.size, rfl, below_then HBW.out hb, HO.out⟩
    | cons a t s n' h k r =>
      rcases hR with hR | ⟨b, o, ys, rfl, hqb, hbl, hA, hE⟩
      · cases hR
      have hkp : Kept (fun k => q k ∨ w.heap.size ≤ k) (fun k => (q k ∨ w.heap.size ≤ k) ∧ k < w1.heap.size) w1 wo := fun k hk hl => ⟨⟨hk, hl⟩, hb.block k hl⟩
      obtain ⟨kp, kc, c0, c1, c2, c3, c4, c5, hkd, hr⟩ := (IEnc.on hkp hE).head (hA.below hbl hb)
      have g1 : decide (i < n) = true := by simp [Ins.len] at hi1; simp; omega
      have hin : i < n := by simp [Ins.len] at hi1; omega
      have hT : insS.rest (fun k => q k ∨ w.heap.size ≤ k) w1 (some ⟨b, o, none⟩) (i + 1) r := .inr ⟨b, o, ys, rfl, hqb, hbl, hA, hE.tail⟩
      have HT := Lib.hid hT
      have HG := Lib.hid hi1
      have HGG := Lib.hid hg
      have hl : (A.app (.cons a t s n' h k .nil)).len = i + 1 := by rw [Ins.len_app, HI.out]; rfl
      have HL := Lib.hid hl
      have HM : Hid (notesF [] 0 (A.app (.cons a t s n' h k .nil)) = nstep (notesF [] 0 A) i t k) := Lib.hid (by rw [notesF_app]; simp only [notesF, HI.out, Nat.zero_add])
      obtain ⟨CA, hCA⟩ : ∃ CA, CA = notesF [] 0 A := ⟨_, rfl⟩
      rw [← hCA] at hrow hcl HM
      have hbz := hb.size
      have hbl2 : b < wo.heap.size := by omega
      have HTO : Hid (total CA ≤ i) := Lib.hid (by rw [hCA, notesF_total, HI.out]; simp [total])
      have HROW := Lib.hid hrow
      have HB := Lib.hid hb
      have HKD := Lib.hid hkd
      have HCA := Lib.hid hCA
      have C5 := Lib.hid ((hb.cell (p := ⟨b, o + i * 6 + 5, none⟩) hbl).symm.trans c5)
      clear hT hl hi1 hg hA hE hr hkp hkd hrow hb hCA c0 c2 c3 c4 c5 hqb
      obtain ⟨up, uc, rfl⟩ := HROW.out.len
      obtain ⟨nc, hnc2⟩ : ∃ nc, nc = CA.length := ⟨_, rfl⟩
      rw [← hnc2] at HROW hcl ⊢
      have HNC := Lib.hid hnc2
      clear hnc2
      have hml2 : n ≤ 900000 := by omega
      go_wp2_with fail
      go_loopg [6, 7] (nc + 1) (fun g s6 s7 wx => ∃ kk at' : Nat, kk ≤ nc ∧ nc < kk + g ∧ s7 = .int .i64 kk ∧ s6 = .int .i64 at' ∧ at' = (fnd CA t.data.toList kk).getD nc ∧ Below wo.heap.size wo wx)
      case atStart => exact ⟨0, nc, by omega, by omega, rfl, rfl, by unfold fnd; split <;> rfl, Below.refl _ _⟩
      case round =>
        obtain ⟨kk, at', hk1, hk2, rfl, rfl, hat, hbx⟩ := hrel
        have hbxz := hbx.size
        have d1 := fun V (hV : Below wo.heap.size wo V) => (hV.cell (p := ⟨b, o + i * 6 + 1, none⟩) hbl2).trans c1
        have e1 := d1 wr hbx
        have hbl3 : b < wr.heap.size := by omega
        have hatle : at' ≤ nc := by
          rw [hat]
          cases hf : fnd CA t.data.toList kk with
          | none => exact Nat.le_refl _
          | some m => have := fnd_lt hf; simp only [Option.getD_some]; omega
        clear c1
        by_cases hkn : kk < nc
        · have hkl : kk < CA.length := by rw [← HNC.out]; exact hkn
          obtain ⟨r4, c4', e4⟩ := HROW.out.form (by omega)
          injection e4 with e4 e5 e6
          subst e4 e6
          have g2 : decide ((kk : Int) < (nc : Int)) = true := by simp; omega
          obtain ⟨v0, v1, v2, vlt, vB, vf⟩ := (by have h := HROW.out.below hbx; rw [HNC.out] at h; exact h.cells hkl : _ ∧ _)
          generalize hnm : (CA.getD kk default).name = nm at v0
          have vlt2 : r4 < wr.heap.size := vlt
          have HNM := Lib.hid hnm
          have HAT := Lib.hid hat
          have HK2 := Lib.hid hk2
          have HBX := Lib.hid hbx
          obtain ⟨bb, hbb⟩ : ∃ bb : Bool, bb = decide (t.data.toList ≠ [] ∧ nm.data.toList = t.data.toList) := ⟨_, rfl⟩
          have HBB := Lib.hid hbb
          clear v1 v2 hnm hat hk2 hbx hbb d1 hkl vf vB vlt
          go_upto_region 10 with fail
          go_cut [43] from 25 to 43 (fun s43 wc => s43 = .bool bb ∧ Below wr.heap.size wr wc)
          case first =>
            by_cases hem : t.data.toList = []
            · have he := size_nil hem
              have hbf : bb = false := by rw [HBB.out]; simp [hem]
              subst hbf
              clear hem HROW HKD HM HTO HCA HNC HT HG HGG HL HB HNM HAT HK2 HBX HBB HAR HI HN HBW HMk
              refine wp_region_gr (by kernel_rfl) (by kernel_rfl) ?_
              repeat (go_big_quiet_step (fail))
              with_reducible refine wpQuiet_nil ?_
              intro _ hw'; obtain ⟨w6, hw''⟩ := hw'; subst hw''
              have B6 := gr_below wr w6
              go_wp2_with fail
              go_meet
              case rel => exact ⟨rfl, B6⟩
            · have he := size_ne hem
              by_cases hq : nm.data.toList = t.data.toList
              · have hs := seq_yes hq
                have hbf : bb = true := by rw [HBB.out]; simp [hem, hq]
                subst hbf
                clear hem hq HROW HKD HM HTO HCA HNC HT HG HGG HL HB HNM HAT HK2 HBX HBB HAR HI HN HBW HMk
                refine wp_region_gr (by kernel_rfl) (by kernel_rfl) ?_
                repeat (go_big_quiet_step (fail))
                with_reducible refine wpQuiet_nil ?_
                intro _ hw'; obtain ⟨w6, hw''⟩ := hw'; subst hw''
                have B6 := gr_below wr w6
                go_wp2_with fail
                go_meet
                case rel => exact ⟨rfl, B6⟩
              · have hs := seq_no hq
                have hbf : bb = false := by rw [HBB.out]; simp [hq]
                subst hbf
                clear hem hq HROW HKD HM HTO HCA HNC HT HG HGG HL HB HNM HAT HK2 HBX HBB HAR HI HN HBW HMk
                refine wp_region_gr (by kernel_rfl) (by kernel_rfl) ?_
                repeat (go_big_quiet_step (fail))
                with_reducible refine wpQuiet_nil ?_
                intro _ hw'; obtain ⟨w6, hw''⟩ := hw'; subst hw''
                have B6 := gr_below wr w6
                go_wp2_with fail
                go_meet
                case rel => exact ⟨rfl, B6⟩
          case rest =>
            obtain ⟨rfl, hbc⟩ := hcut
            have hb3 := below_then HBX.out hbc
            cases bb with
            | true =>
              have hf : fnd CA t.data.toList (kk + 1) = some kk := by
                have h := HBB.out.symm
                simp only [decide_eq_true_eq] at h
                exact fnd_yes h.1 (by rw [HNM.out]; exact h.2)
              have HF := Lib.hid hf
              clear hf
              go_wp2_with fail
              go_roundg (nc - kk)
              case measure => have := HK2.out; omega
              case rel => exact ⟨kk + 1, kk, by omega, by omega, by go_num, rfl, by rw [HF.out]; rfl, hb3⟩
            | false =>
              have hf : fnd CA t.data.toList (kk + 1) = fnd CA t.data.toList kk := by
                have h := HBB.out.symm
                simp only [decide_eq_false_iff_not] at h
                refine fnd_no ?_
                by_cases h0 : t.data.toList = []
                · exact .inl h0
                · exact .inr (fun e => h ⟨h0, by rw [← HNM.out]; exact e⟩)
              have HF := Lib.hid hf
              clear hf
              go_wp2_with fail
              go_roundg (nc - kk)
              case measure => have := HK2.out; omega
              case rel => exact ⟨kk + 1, at', by omega, by omega, by go_num, rfl, by rw [HF.out]; exact HAT.out, hb3⟩
        · have g2 : decide ((kk : Int) < (nc : Int)) = false := by simp; omega
          have hkk : kk = CA.length := by rw [← HNC.out]; omega
          rw [hkk, fnd_len] at hat
          have hplc : plcT CA t.data.toList = none ∧ at' = nc ∨ plcT CA t.data.toList = some at' ∧ at' < nc := by
            cases hq : plcT CA t.data.toList with
            | none => rw [hq] at hat; exact .inl ⟨rfl, hat⟩
            | some m =>
              rw [hq] at hat
              have h1 := fnd_lt (k := CA.length) hq
              simp only [Option.getD_some] at hat
              exact .inr ⟨by rw [hat], by rw [hat, HNC.out]; exact h1⟩
          have HROWX := Lib.hid (HROW.out.below hbx)
          have hbwx := below_then HB.out hbx
          have hbwxz := hbwx.size
          have HBWX := Lib.hid hbwx
          have HKDX := Lib.hid (insS.sl_on HKD.out (Kept.below hbx))
          have HE1 := Lib.hid e1
          clear hkk hat hk1 hk2 hbx d1 HROW HKD HB hbwx
          go_upto_if 48 with fail
          go_cut [3] from 48 to 57 (fun s3 wc => ∃ (L2 : List Nt) (I2 U2 : Nat → Value), NRow (fun b => (q b ∨ w.heap.size ≤ b) ∧ b < w1.heap.size) w1.heap.size wc s3 L2 I2 U2 ∧ at' < L2.length ∧ L2.length ≤ i + 1 ∧ Below w1.heap.size w1 wc ∧ b < wc.heap.size ∧ nstep CA i t k = L2.set at' (upd (L2.getD at' default) (i + 1) k) ∧ total L2 ≤ i)
          case first =>
            rcases hplc with ⟨hp, rfl⟩ | ⟨hp, hlt⟩
            · have gq : ((at' : Int) == (at' : Int)) = true := by simp
              have HSR := Lib.hid (Src.new wr 42 #[.string t, .slice none 0 0, .slice none 0 0] 1 1)
              have HR2 := Lib.hid (HROWX.out.below (below_new0 wr (.cells #[.string t, .slice none 0 0, .slice none 0 0] 42)))
              have HP := Lib.hid hp
              clear hp
              go_wp2_with (at_builtin; go_must (refine append_note _ rfl _ _ rfl HR2.out rfl HSR.out rfl (by rw [← HNC.out]; omega) (by simp; omega) ?_); intro v' w3 hrow3 hgr hbase)
              go_meet
              case rel =>
                have hgr2 := hgr.size
                rw [World.size_alloc] at hgr2
                have hlen : (CA ++ [(⟨t, .nil, []⟩ : Nt)]).length = CA.length + 1 := by simp
                have hw1 : Below w1.heap.size w1 w3 := (HBWX.out.trans ((below_new0 wr _).mono hbwxz)).grown hgr (by simp; omega) hbase
                exact ⟨_, _, _, hrow3, by rw [hlen, ← HNC.out]; omega, by rw [hlen, ← HNC.out]; omega, hw1, by omega, by rw [HNC.out]; exact nstep_none HP.out, by rw [total_snoc]; exact HTO.out⟩
            · have gq : ((at' : Int) == (nc : Int)) = false := by simp; omega
              have HP := Lib.hid hp
              clear hp
              go_wp2_with fail
              go_meet
              case rel => exact ⟨CA, I, U, HROWX.out, by rw [← HNC.out]; exact hlt, by rw [← HNC.out]; omega, HBWX.out, hbl3, nstep_some HP.out, HTO.out⟩
          case rest =>
            obtain ⟨L2, I2, U2, hrow4, hm2, hl2, hw4, hbl4, hst, htot⟩ := hcut
            obtain ⟨r4, c4', rfl⟩ := hrow4.form (by omega)
            obtain ⟨v0, v1, v2, vlt, vB, vf⟩ := hrow4.cells hm2
            obtain ⟨ip, ic, hI⟩ := (hrow4.ins at' hm2).form
            have hul := uses_le L2 at' hm2
            have f5 := (hw4.cell (p := ⟨b, o + i * 6 + 5, none⟩) hbl).trans C5.out
            have hkd4 := insS.sl_on HKDX.out (kept_low HBWX.out hw4)
            have HKD4 := Lib.hid hkd4
            have HROW4 := Lib.hid hrow4
            have HST := Lib.hid hst
            have HM2 := Lib.hid hm2
            obtain ⟨nl, hnl⟩ : ∃ nl, nl = L2.length := ⟨_, rfl⟩
            rw [← hnl] at hm2 hl2 ⊢
            have HNL := Lib.hid hnl
            have vf1 := vf (at' * 3 + 1)
            obtain ⟨il, hil⟩ : ∃ il, (L2.getD at' default).ins.len = il := ⟨_, rfl⟩
            have hI3 : insS.len (L2.getD at' default).ins = il := hil
            rw [hI, hI3] at v1
            have HIL := Lib.hid hil
            have HW4 := Lib.hid hw4
            clear hkd4 hrow4 hst hnl hI hI3 hil v0 v2 vf hw4
            go_upto_if 64 with fail
            go_cut [3] from 64 to 73 (fun s3 wd => ∃ I3, s3 = .slice (some ⟨r4, 0, none⟩) nl c4' ∧ NRow (fun b => (q b ∨ w.heap.size ≤ b) ∧ b < w1.heap.size) w1.heap.size wd (.slice (some ⟨r4, 0, none⟩) nl c4') (L2.set at' (fill (L2.getD at' default) k)) I3 U2 ∧ Below w1.heap.size w1 wd)
            case first =>
              by_cases hz : il = 0
              · have ez : ((il : Int) == 0) = true := by simp; omega
                have HZ : Hid ((L2.getD at' default).ins.len = 0) := Lib.hid (HIL.out.trans hz)
                clear hz
                go_wp2_with fail
                go_meet
                case rel =>
                  refine ⟨fun j => if j = at' then .slice kp k.len kc else I2 j, rfl, ?_, HW4.out.setCell vB _⟩
                  rw [HNL.out, fill_new HZ.out]
                  exact NRow.putIns HROW4.out HM2.out HKD4.out
              · have ez : ((il : Int) == 0) = false := by simp; omega
                have HZ : Hid ((L2.getD at' default).ins.len ≠ 0) := Lib.hid (fun e => hz (HIL.out.symm.trans e))
                clear hz
                go_wp2_with fail
                go_meet
                case rel =>
                  refine ⟨I2, rfl, ?_, HW4.out⟩
                  rw [HNL.out, fill_old HZ.out, set_getD _ _ HM2.out]
                  exact HROW4.out
            case rest =>
              obtain ⟨I3, rfl, hrow5, hw5⟩ := hcut
              obtain ⟨L3, hL3⟩ : ∃ L3, L3 = L2.set at' (fill (L2.getD at' default) k) := ⟨_, rfl⟩
              rw [← hL3] at hrow5
              have hl3 : L3.length = nl := by rw [hL3, List.length_set, HNL.out]
              have hm3 : at' < L3.length := by rw [hl3]; exact hm2
              have hus : (L3.getD at' default).uses = (L2.getD at' default).uses := by rw [hL3, getD_set _ _ _ _ HM2.out, if_pos rfl]; rfl
              rw [← hl3] at hrow5
              obtain ⟨x0, x1, x2, xlt, xB, xf⟩ := hrow5.cells hm3
              have huse := hrow5.use at' hm3
              rw [hus] at huse
              obtain ⟨UU, hUU⟩ : ∃ UU, UU = (L2.getD at' default).uses := ⟨_, rfl⟩
              rw [← hUU] at huse hul
              obtain ⟨ul, hul2⟩ : ∃ ul, ul = UU.length := ⟨_, rfl⟩
              have hul3 : ul ≤ 900000 := by omega
              have hw5z := hw5.size
              have HUSE := Lib.hid huse
              have HUN : Hid (wc.ownsRow w1.heap.size 3 1 (.slice none 0 0) ([] : List Nat).length (ints [])) := Lib.hid (World.ownsRow_nil _ _ _ _)
              have HSU := Lib.hid (src_own huse)
              have HUL := Lib.hid hul2
              have HROW5 := Lib.hid hrow5
              have HL3 := Lib.hid hL3
              have HLN := Lib.hid hl3
              have HM3 := Lib.hid hm3
              have HUU := Lib.hid hUU
              have HUS := Lib.hid hus
              have HW5 := Lib.hid hw5
              clear hrow5 hL3 hl3 hm3 hus huse hUU hul hul2 x0 x1 xf hw5
              go_wp2_with (at_builtin; first
                | (refine append_use _ rfl _ _ rfl HOWN6.out rfl HSV.out rfl (ul + 1) (by rw [HUL.out]; simp) (by omega) (by simp; omega) ?_; intro p6 c6 w6 hown6 hg6 hat6; obtain ⟨⟨e1, e2, e3⟩, hn6⟩ := NRow.putUse HROW5.out HM3.out (x := .slice p6 (ul + 1) c6) (us := [] ++ UU ++ [i + 1]) (fun j hj hne => (hg6.block j (Nat.lt_of_lt_of_le hj (by simp; omega)) (fun e => by have := HG5.out j e.symm; omega)).trans ((below_new0 _ _).block j (by omega) |>.trans (HGR5.out.block j hj (fun e => by cases e)))) hown6 (fun g hg => by rcases hat6 with h6 | h6; exact .inr (HG5.out g (h6 ▸ hg)); rw [h6] at hg; injection hg with hg; exact .inr (by rw [← hg]; simp; omega)); have hf2 := e3 (at' * 3 + 2); have hr6 : r4 < w6.heap.size := Nat.lt_of_lt_of_le (by simp; omega) hg6.size; have HN6 := Lib.hid hn6; have HG6 := Lib.hid hg6; have HO6 := Lib.hid hown6; clear e1 e3 hn6 hown6 hg6 hat6)
                | (refine append_use _ rfl _ _ rfl HUN.out rfl HSU.out rfl ul (by rw [HUL.out]; simp) (by omega) (by omega) ?_; intro p5 c5 w5 hown5 hg5 hat5; have hz5 := hg5.size; have HG5 : Hid (∀ g, (Value.slice p5 ul c5).ownBlock = some g → wc.heap.size ≤ g) := Lib.hid (fun g hg => by rcases hat5 with h5 | h5; rw [h5] at hg; cases hg; rw [h5] at hg; injection hg with hg; omega); have HGR5 := Lib.hid hg5; have HOWN6 := Lib.hid (own_on hown5 (w' := w5.alloc (.cells #[.int .i64 ((i : Int) + 1)] 3)) (fun g hg => (below_new0 w5 _).block g (hown5.lt g hg).2)); have HSV : Hid (Src (w5.alloc (.cells #[.int .i64 ((i : Int) + 1)] 3)) (.slice (some ⟨w5.heap.size, 0, none⟩) 1 1) [i + 1].length (ints [i + 1])) := Lib.hid (Src.new w5 3 #[.int .i64 ((i : Int) + 1)] 1 1); clear hown5 hg5 hat5))
              have HG2 := HG.out
              have HG3 := HGG.out
              simp only [Ins.len] at HG2 HG3
              go_roundg (r.len + 1)
              case measure => omega
              case rel =>
                have hlast : notesF [] 0 (A.app (.cons a t s n' h k .nil)) = L2.set at' (upd (L2.getD at' default) (i + 1) k) := by rw [HM.out, HST.out]
                refine ⟨A.app (.cons a t s n' h k .nil), r, I3, (fun j => if j = at' then .slice p6 (ul + 1) c6 else U2 j), by rw [Ins.app_assoc]; exact HAR.out, by rw [HL.out]; omega, by omega, by rw [HL.out]; go_num, ?_, ?_, by rw [HL.out]; exact HT.out⟩
                · rw [hlast, ← fill_upd HM2.out]
                  have h7 := HN6.out
                  rw [HLN.out, HL3.out, HUU.out, List.nil_append] at h7
                  exact h7
                · refine (((HW5.out.grown HGR5.out (by omega) (fun g hg => by cases hg)).trans ((below_new0 w5 (.cells #[.int .i64 ((i : Int) + 1)] 3)).mono (by omega))).grown HG6.out (by simp; omega) (fun g hg => Nat.le_trans (by omega) (HG5.out g hg))).setCell xB _
end Go.Proofs.YtibmemaciahofaaDoor
