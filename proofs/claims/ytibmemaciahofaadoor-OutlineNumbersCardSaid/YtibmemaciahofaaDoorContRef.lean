/-
  The reference's table of contents. Conditions: those typed in each theorem.
-/
import Derived.Test.YtibmemaciahofaaDoorContFree
import Derived.Test.YtibmemaciahofaaDoorAncR
import Derived.Test.YtibmemaciahofaaDoorOutPlainR
import Derived.Deep.Cut
import Derived.Deep.CutRange
namespace Go.Proofs.YtibmemaciahofaaDoor
open Go.RowKit Doc Cont
set_option linter.unusedVariables false
attribute [local go_sem ↓] Go.wp_at_zero Go.wp_at_succ

theorem Doc.Bls.bulk_app : ∀ a b : Bls, (a.app b).bulk = a.bulk + b.bulk
  | .nil, b => by simp [Bls.bulk]
  | .cons a l t i k r, b => by simp only [Bls.app, Bls.bulk, Doc.Bls.bulk_app r b]; omega
theorem below_put4 {B g : Nat} {A V : World} (h : Below B A V) (hg : B ≤ g) (a b c d : Value) : Below B A ((((V.setCell ⟨g, 0, none⟩ a).setCell ⟨g, 1, none⟩ b).setCell ⟨g, 2, none⟩ c).setCell ⟨g, 3, none⟩ d) :=
  (((h.setCell (p := ⟨g, 0, none⟩) hg a).setCell (p := ⟨g, 1, none⟩) hg b).setCell (p := ⟨g, 2, none⟩) hg c).setCell (p := ⟨g, 3, none⟩) hg d
theorem known_drew (w : World) (t : TypeId) (cs : Array Value) : Known (w.alloc (.cells cs t)).drew w.heap.size t cs := Known.made w t cs
theorem new_drew (w : World) (o : Obj) : Below w.heap.size w (w.alloc o).drew := (below_new0 w o).drew
/-- sizes of entries -/
def OkE (L : List Ent) : Prop := ∀ k, k < L.length → (L.getD k default).num.size ≤ 22 * (k + 1) ∧ (L.getD k default).anc.size ≤ 100000000
theorem OkE.nil : OkE [] := fun k hk => by simp at hk
theorem numB_len (L : List Ent) (lv : Int) (h : OkE L) (hl : L.length ≤ 1000000) : (numB L lv).length ≤ 22 * (L.length + 1) := by
  have hb := par_bd L lv L.length
  have hc := cnt_le L (par L lv L.length) L.length
  have hd := dec_len 6 (cnt L (par L lv L.length) L.length + 1) (by omega)
  unfold numB
  rw [List.length_append]
  split
  · simp only [List.length_nil]; omega
  · obtain ⟨m, hm⟩ : ∃ m : Nat, par L lv L.length = m := ⟨(par L lv L.length).toNat, by omega⟩
    have := (h m (by omega)).1
    have h2 : (L.getD m default).num.data.toList.length = (L.getD m default).num.size := by simp
    rw [hm, show ((m : Int)).toNat = m by omega]
    rw [hm] at hd hb
    simp only [List.length_append, List.length_cons, List.length_nil, h2]
    omega
theorem OkE.snoc {L : List Ent} (h : OkE L) (lv : Int) (t : List UInt8) (hl : L.length < 1000000) (ht : t.length ≤ 30000000) : OkE (L ++ [ent L lv t]) := by
  intro k hk
  by_cases e : k = L.length
  · subst e
    rw [getD_snoc]
    refine ⟨?_, ?_⟩
    · show (⟨(numB L lv).toArray⟩ : ByteArray).size ≤ _
      rw [show (⟨(numB L lv).toArray⟩ : ByteArray).size = (numB L lv).length by simp [ByteArray.size]]
      exact numB_len L lv h (by omega)
    · obtain ⟨m, h1, h2, h3, h4⟩ := anc_some L (Anc.anchor t)
      show (⟨(ancB L (Anc.anchor t)).toArray⟩ : ByteArray).size ≤ _
      have := Anc.anchor_len t
      have h5 := cand_size (X := ⟨(ancB L (Anc.anchor t)).toArray⟩) (a := Anc.anchor t) (m := m) h3 (by omega)
      omega
  · have hk' : k < L.length := by simp at hk; omega
    have e2 : (L ++ [ent L lv t]).getD k default = L.getD k default := by simp [List.getD, List.getElem?_append_left hk']
    rw [e2]
    exact h k hk'
theorem own_ents {w : World} {B : Nat} {v : Value} {L : List Ent} (h : entS.own 54 (fun _ => False) B w v L) : ∃ p c, v = .slice p L.length c ∧ Ents w p L ∧ L.length ≤ c ∧ c ≤ 9223372036854775807 := by
  have hs := h.sl
  obtain ⟨p, c, rfl⟩ := h.form
  have := Ents.of hs
  exact ⟨p, c, rfl, this.1, this.2.2⟩

set_option maxRecDepth 10000 in
set_option maxHeartbeats 4000000 in
theorem contR_any (q : Nat → Prop) (L : Bls) (p : Option Addr) (c : Nat) (w : World) (hM : L.size ≤ 900000) (hK : L.bulk ≤ 10000000) (hv : blsS.sl q w (.slice p L.len c) L) :
    Calls Tryd.prog 17 #[.slice p L.len c] w fun e w' => ∃ p c, e = .returned (.slice p (cont L).length c) ∧ Below w.heap.size w w' ∧ entS.sl (fun k => w.heap.size ≤ k) w' (.slice p (cont L).length c) (cont L) := by
  obtain ⟨hF, -, hnc, hc⟩ := Shp.rest_start hv
  have hlen := L.len_size
  obtain ⟨n, hn⟩ : ∃ n, n = L.len := ⟨_, rfl⟩
  rw [← hn] at hlen hnc ⊢
  have HN := Lib.hid hn
  clear hn hv
  go_enter Tryd.func17, Tryd.ntmps17
  go_wp2_with fail
  go_loopg [3, 4, 5, 6] (n + 1) (fun g s3 s4 s5 s6 wr => ∃ (A R : Bls), A.app R = L ∧ A.len + R.len = n ∧ R.len < g ∧ s4 = .int .i64 A.len ∧ entS.own 54 (fun _ => False) w.heap.size wr s3 (cont A) ∧ OkE (cont A) ∧ Below w.heap.size w wr ∧ blsS.rest q w p A.len R)
  case atStart => exact ⟨.nil, L, rfl, by simp [Bls.len]; exact HN.out.symm, by rw [← HN.out]; omega, rfl, Shp.own.nil, OkE.nil, Below.refl _ _, hF⟩
  case round =>
    obtain ⟨A, R, hAR, hi1, hg, rfl, hown, hok, hb, hR⟩ := hrel
    have HAR := Lib.hid hAR
    generalize hi : A.len = i at *
    have HI := Lib.hid hi
    have hcl : (cont A).length ≤ i := by have := contF_len A []; rw [hi] at this; unfold cont; simpa using this
    clear hAR hi
    cases R with
    | nil =>
      have g1 : decide (i < n) = false := by simp [Bls.len] at hi1; simp; omega
      have HO := Lib.hid hown
      clear hi1 hR hown
      go_wp2_with fail
      obtain ⟨up, uc, rfl⟩ := HO.out.form
      go_ret
      have e1 : A = L := by have := HAR.out; simpa using this
      subst e1
      exact ⟨_, _, rfl, hb, entS.sl_on HO.out.sl (Kept.mono fun k hk _ => by rcases hk with hk | hk; exact hk.elim; exact hk)⟩
    | cons a l t m k r =>
      rcases hR with hR | ⟨b, o, ys, rfl, hqb, hbl, hA, hE⟩
      · cases hR
      · obtain ⟨mp, mc, kp, kc, c0, c1, c2, c3, c4, hm, hk, hr⟩ := (BEnc.on (Kept.belowLt hb) hE).head (hA.below hbl hb)
        have g1 : decide (i < n) = true := by simp [Bls.len] at hi1; simp; omega
        have hin : i < n := by simp [Bls.len] at hi1; omega
        have hsz : L.size = A.size + (m.size + k.size + r.size + 1) := by rw [← HAR.out, Bls.size_app]; simp only [Bls.size]
        have hbk : m.bulk ≤ L.bulk := by rw [← HAR.out, Bls.bulk_app]; simp only [Bls.bulk]; omega
        have hms2 : m.size ≤ 1000000 := by omega
        have hT : blsS.rest q w (some ⟨b, o, none⟩) (i + 1) r := .inr ⟨b, o, ys, rfl, hqb, hbl, hA, hE.tail⟩
        have HT := Lib.hid hT
        have HG := Lib.hid hi1
        have HGG := Lib.hid hg
        have hsb := hb.size
        have hl : (A.app (.cons a l t m k .nil)).len = i + 1 := by rw [Bls.len_app, HI.out]; rfl
        have HL := Lib.hid hl
        have HM : Hid (cont (A.app (.cons a l t m k .nil)) = if a = 1 then cont A ++ [ent (cont A) l m.plain] else cont A) := Lib.hid (by unfold cont; rw [contF_app]; rfl)
        by_cases ha : a = 1
        · have b1 : (a != 1) = false := by simpa using ha
          rw [if_pos ha] at HM
          have hP := plainR_any _ _ m mp mc wr (Nat.lt_succ_self _) hms2 (by omega) hm
          have hpl : m.plain.length ≤ 10000000 := Nat.le_trans m.plain_le (by omega)
          have hTs : (⟨m.plain.toArray⟩ : ByteArray).size ≤ 10000000 := by rw [str_size (l := m.plain) rfl]; exact hpl
          have hTl : (⟨m.plain.toArray⟩ : ByteArray).data.toList = m.plain := rfl
          have hok2 := hok.snoc l m.plain (by omega) (by omega)
          generalize m.plain = pl at *
          generalize hTT : (⟨pl.toArray⟩ : ByteArray) = T at *
          have HTT := Lib.hid hTT
          have hN : ∀ (W : World), Below wr.heap.size wr W → ∀ p' c', u3 = .slice p' (cont A).length c' → Calls Tryd.prog 41 #[.slice p' (cont A).length c', .int .i64 l] W fun e w' => e = .returned (.string ⟨(numB (cont A) l).toArray⟩) ∧ Below W.heap.size W w' := by
            intro W hW p' c' he
            obtain ⟨p2, c2, he2, hE2, h3, h4⟩ := own_ents (hown.below hW)
            rw [he2] at he
            injection he with e1 e2 e3
            subst e1 e3
            exact number_any p2 (cont A) l c2 W hE2 h3 h4 (by omega) (fun k hk => by have := (hok k hk).1; omega)
          have hF : ∀ (W : World), Below wr.heap.size wr W → ∀ p' c', u3 = .slice p' (cont A).length c' → Calls Tryd.prog 42 #[.slice p' (cont A).length c', .string ⟨(Anc.anchor T.data.toList).toArray⟩] W fun e w' => e = .returned (.string ⟨(ancB (cont A) (Anc.anchor T.data.toList)).toArray⟩) ∧ Below W.heap.size W w' := by
            intro W hW p' c' he
            obtain ⟨p2, c2, he2, hE2, h3, h4⟩ := own_ents (hown.below hW)
            rw [he2] at he
            injection he with e1 e2 e3
            subst e1 e3
            have := Anc.anchor_len T.data.toList
            have hl : T.data.toList.length = T.size := by simp
            exact free_any p2 (cont A) ⟨(Anc.anchor T.data.toList).toArray⟩ c2 W hE2 (by omega) (by rw [str_size (l := Anc.anchor T.data.toList) rfl]; omega)
          have hAn := fun W => anchorR_any T W (by omega)
          obtain ⟨p3, c3', rfl, -, -, -⟩ := own_ents hown
          have hN2 := fun W hW => hN W hW p3 c3' rfl
          have hF2 := fun W hW => hF W hW p3 c3' rfl
          obtain ⟨F1, hF1⟩ : ∃ F1 : ByteArray, (⟨(numB (cont A) l).toArray⟩ : ByteArray) = F1 := ⟨_, rfl⟩
          obtain ⟨F2, hF2e⟩ : ∃ F2 : ByteArray, (⟨(Anc.anchor T.data.toList).toArray⟩ : ByteArray) = F2 := ⟨_, rfl⟩
          obtain ⟨F3, hF3⟩ : ∃ F3 : ByteArray, (⟨(ancB (cont A) (Anc.anchor T.data.toList)).toArray⟩ : ByteArray) = F3 := ⟨_, rfl⟩
          have HEN : Hid (ent (cont A) l pl = ⟨l, F1, T, F3⟩) := Lib.hid (by unfold ent; rw [hTT, ← hF1, ← hF3, hTl])
          have hlc : (cont A).length ≤ 900000 := by omega
          rw [hF1] at hN2
          rw [hF2e] at hAn hF2
          rw [hF3] at hF2
          have HN2 := Lib.hid hN2
          have HF2 := Lib.hid hF2
          have HAn := Lib.hid hAn
          have HO := Lib.hid hown
          have HP := Lib.hid hP
          have HOK := Lib.hid hok2
          have HB := Lib.hid hb
          clear ha hg hi1 hT hl hr hk hF1 hF2e hF3 hN hF hN2 hF2 hAn hTT hTl hP hown hok2 hpl
          generalize hCA : cont A = CA at *
          have HCA := Lib.hid hCA
          obtain ⟨nc, hnc2⟩ : ∃ nc, nc = CA.length := ⟨_, rfl⟩
          rw [← hnc2] at HN2 HF2 HO hlc ⊢
          have HNC := Lib.hid hnc2
          clear hCA hnc2
          go_wp2_with fail
          refine HP.out.mono ?_
          rintro e w1 ⟨rfl, hb1⟩
          have hbs := hb1.size
          have d1 : w1.cell? ⟨b, o + i * 5 + 1, none⟩ = some (.int .i64 l) := (hb1.cell (p := ⟨b, o + i * 5 + 1, none⟩) (by have := hsb; show b < _; omega)).trans c1
          clear c0 c1 c2 c3 c4
          go_upto_region 7 with fail
          go_cut [6] from 7 to 46 (fun s6 wc => ∃ g, s6 = .pointer (some ⟨g, 0, none⟩) ∧ Known wc g 54 #[.int .i64 l, .string F1, .string T, .string F3] ∧ Below w1.heap.size w1 wc)
          case first =>
            rename_i Q0 K0 hK0 J K' hJ hK'
            refine cut_gen hJ hK' ?_
            clear hJ hK' hK0
            intro J K' hJ hK'
            have hb := (Below.refl w1.heap.size w1).drew
            have hsz := hb.size
            have i0 : (0 : Int) ≤ (i : Int) := by omega
            have i1 : (i : Int) < (n : Int) := by omega
            have HC : ∀ W, Below w1.heap.size w1 W → W.cell? ⟨b, o + i * 5 + 1, none⟩ = some (.int .i64 l) := fun W hW => (hW.cell (p := ⟨b, o + i * 5 + 1, none⟩) (by show b < _; omega)).trans d1
            have HC := Lib.hid HC
            have hb1' := Lib.hid hb1
            clear hb1
            go_region_held3 (fun W => W.cell? ⟨b, o + i * 5 + 1, none⟩ = some (.int .i64 l))
              (first | exact HC.out _ hb | exact HC.out _ (below_then hb (below_new0 _ _)) | exact HC.out _ (new_drew _ _) | exact HC.out _ (below_put4 hb (by omega) _ _ _ _))
              (first
                | (go_at_call 41; (first | with_reducible refine (HN2.out _ (below_then hb1'.out hb)).mono ?_ | with_reducible refine (HN2.out _ (below_then hb1'.out (below_then hb (below_new0 _ _)))).mono ?_ | with_reducible refine (HN2.out _ (below_then hb1'.out (new_drew _ _))).mono ?_); rintro e wa ⟨rfl, hba⟩; (try (first | have KX := KX.on hba | have KX := (Known.made _ _ _).on hba | have KX := (known_drew _ _ _).on hba)); (first | have hb := below_then hb hba | have hb := below_then (below_then hb (below_new0 _ _)) hba | have hb := below_then (new_drew _ _) hba); have hsz := hb.size)
                | (go_at_call 10; (with_reducible refine (HAn.out _).mono ?_); rintro e wa ⟨rfl, hba⟩; (try (first | have KX := KX.on hba | have KX := (Known.made _ _ _).on hba | have KX := (known_drew _ _ _).on hba)); (first | have hb := below_then hb hba | have hb := below_then (below_then hb (below_new0 _ _)) hba | have hb := below_then (new_drew _ _) hba); have hsz := hb.size)
                | (go_at_call 42; (first | with_reducible refine (HF2.out _ (below_then hb1'.out hb)).mono ?_ | with_reducible refine (HF2.out _ (below_then hb1'.out (below_then hb (below_new0 _ _)))).mono ?_); rintro e wa ⟨rfl, hba⟩; (try (first | have KX := KX.on hba | have KX := (Known.made _ _ _).on hba | have KX := (known_drew _ _ _).on hba)); (first | have hb := below_then hb hba | have hb := below_then (below_then hb (below_new0 _ _)) hba | have hb := below_then (new_drew _ _) hba); have hsz := hb.size; (try obtain ⟨x0, x1, x2, x3⟩ := KX.four); (try have f0 := KX.free 0); (try have f1 := KX.free 1); (try have f2 := KX.free 2); (try have f3 := KX.free 3))
                | fail)
            all_goals
              clear HN2 HF2 HAn HO HP HC
              go_wp2_with fail
              go_meet
              case rel => first
                | exact ⟨_, rfl, (((KX.put 0 _).put 1 _).put 2 _).put 3 _, below_put4 hb (by omega) _ _ _ _⟩
                | exact ⟨_, rfl, Known.made _ _ _, below_then hb (below_new0 _ _)⟩
          case rest =>
            obtain ⟨g, rfl, KX, hb2⟩ := hcut
            obtain ⟨x0, x1, x2, x3⟩ := KX.four
            have hbw := below_then hb1 hb2
            have hgl := KX.lt
            have ho2 := (HO.out.below hbw).below (below_new0 _ (.cells #[.int .i64 l, .string F1, .string T, .string F3] 54))
            have hs := src_ent (q := Shp.kind (fun _ => False) w.heap.size (.slice p3 nc c3')) (w := wc) (ty := 54) ⟨l, F1, T, F3⟩
            have hbz := hbw.size
            have HO2 := Lib.hid ho2
            have HS := Lib.hid hs
            have HBW := Lib.hid hbw
            have hlz : entS.len CA = nc := HNC.out.symm
            have HLZ := Lib.hid hlz
            clear hlz
            clear ho2 hs hb1 hb2 hbw
            go_wp2_with (at_builtin; go_must (refine append_shp entS tyE _ rfl _ _ rfl HO2.out rfl HS.out rfl (by rw [HLZ.out]; show (nc + 1) * 57 ≤ _; omega) (by simp; omega) ?_); intro v' w2 hown' hgrow hbel hkd)
            have HG2 := HG.out
            have HG3 := HGG.out
            simp only [Bls.len] at HG2 HG3
            go_roundg (r.len + 1)
            case measure => omega
            case rel =>
              have hbw2 := (HB.out.trans (HBW.out.mono hsb)).trans ((below_new0 wc (.cells #[.int .i64 l, .string F1, .string T, .string F3] 54)).mono (by omega))
              have hcc : cont (A.app (.cons a l t m k .nil)) = CA ++ [⟨l, F1, T, F3⟩] := by rw [HM.out, HEN.out]
              exact ⟨A.app (.cons a l t m k .nil), r, by rw [Bls.app_assoc]; exact HAR.out, by rw [HL.out]; omega, by omega, by rw [HL.out]; go_num, by rw [hcc]; exact hown', by rw [hcc, ← HEN.out]; exact HOK.out, hbel _ hbw2, by rw [HL.out]; exact HT.out⟩
        · have b1 : (a != 1) = true := by simpa using ha
          rw [if_neg ha] at HM
          have HO := Lib.hid hown
          clear ha hown hg hi1 hT hl hr hk hm
          go_wp2_with fail
          have HG2 := HG.out
          have HG3 := HGG.out
          simp only [Bls.len] at HG2 HG3
          go_roundg (r.len + 1)
          case measure => omega
          case rel => exact ⟨A.app (.cons a l t m k .nil), r, by rw [Bls.app_assoc]; exact HAR.out, by rw [HL.out]; omega, by omega, by rw [HL.out]; go_num, by rw [HM.out]; exact HO.out, by rw [HM.out]; exact hok, hb, by rw [HL.out]; exact HT.out⟩
end Go.Proofs.YtibmemaciahofaaDoor
