/-
  The marks of footnotes of blocks, by the program; the reference's marks of elements. Conditions: those typed in each theorem.
-/
import Derived.Test.YtibmemaciahofaaDoorOutMarks
namespace Go.Proofs.YtibmemaciahofaaDoor
open Go.RowKit Doc
set_option linter.unusedVariables false


set_option maxRecDepth 10000 in
set_option maxHeartbeats 2000000 in
theorem marksB_any : ∀ (N : Nat) (q : Nat → Prop) (L : Bls) (p : Option Addr) (c : Nat) (w : World), L.size < N → L.size ≤ 1000000 → blsS.sl q w (.slice p L.len c) L →
    Calls Tryd.prog 19 #[.slice p L.len c] w fun e w' => ∃ p c, e = .returned (.slice p L.marks.len c) ∧ Below w.heap.size w w' ∧ insS.sl (fun k => w.heap.size ≤ k) w' (.slice p L.marks.len c) L.marks := by
  intro N
  induction N with
  | zero => intro q L p c w hN; exact absurd hN (Nat.not_lt_zero _)
  | succ N ih =>
    intro q L p c w hN hM hv
    obtain ⟨hF, -, hnc, hc⟩ := Shp.rest_start hv
    have hlen := L.len_size
    obtain ⟨n, hn⟩ : ∃ n, n = L.len := ⟨_, rfl⟩
    rw [← hn] at hlen hnc ⊢
    have HN := Lib.hid hn
    clear hn hv
    go_enter Tryd.func19, Tryd.ntmps19
    go_wp2_with fail
    go_loopg [3, 5, 8] (n + 1) (fun g s3 s5 s8 wr => ∃ (A R : Bls), A.app R = L ∧ A.len + R.len = n ∧ R.len < g ∧ s8 = .int .i64 A.len ∧ insS.own 46 (fun _ => False) w.heap.size wr s3 A.marks ∧ Below w.heap.size w wr ∧ blsS.rest q w p A.len R)
    case atStart => exact ⟨.nil, L, rfl, by simp [Bls.len]; exact HN.out.symm, by rw [← HN.out]; omega, rfl, Shp.own.nil, Below.refl _ _, hF⟩
    case round =>
      obtain ⟨A, R, hAR, hi1, hg, rfl, hown, hb, hR⟩ := hrel
      have HAR := Lib.hid hAR
      generalize hi : A.len = i at *
      have HI := Lib.hid hi
      clear hAR hi
      cases R with
      | nil =>
        have g1 : decide (i < n) = false := by simp [Bls.len] at hi1; simp; omega
        have HO := Lib.hid hown
        clear hi1 hR hown
        go_wp2_with fail
        obtain ⟨up, uc, rfl⟩ := HO.out.form
        go_ret
        have e1 : A = L := by have := HAR.out; simpa using this
        subst e1
        exact ⟨_, _, rfl, hb, insS.sl_on HO.out.sl (Kept.mono fun k hk _ => by rcases hk with hk | hk; exact hk.elim; exact hk)⟩
      | cons a l t m k r =>
        rcases hR with hR | ⟨b, o, ys, rfl, hqb, hbl, hA, hE⟩
        · cases hR
        · obtain ⟨mp, mc, kp, kc, c0, c1, c2, c3, c4, hm, hk, hr⟩ := (BEnc.on (Kept.belowLt hb) hE).head (hA.below hbl hb)
          have g1 : decide (i < n) = true := by simp [Bls.len] at hi1; simp; omega
          have hin : i < n := by simp [Bls.len] at hi1; omega
          have hsz : L.size = A.size + (m.size + k.size + r.size + 1) := by rw [← HAR.out, Bls.size_app]; simp only [Bls.size]
          have hks : k.size < N := by omega
          have hks2 : k.size ≤ 1000000 := by omega
          have hms2 : m.size ≤ 1000000 := by omega
          have hla : insS.len A.marks ≤ 1000000 := by show A.marks.len ≤ _; have := A.marks.len_size; have := A.marks_size; omega
          have hlk : insS.len k.marks ≤ 1000000 := by show k.marks.len ≤ _; have := k.marks.len_size; have := k.marks_size; omega
          have hlm : insS.len m.marks ≤ 1000000 := by show m.marks.len ≤ _; have := m.marks_len; omega
          have hT : blsS.rest q w (some ⟨b, o, none⟩) (i + 1) r := .inr ⟨b, o, ys, rfl, hqb, hbl, hA, hE.tail⟩
          have HT := Lib.hid hT
          have HG := Lib.hid hi1
          have HGG := Lib.hid hg
          have hsb := hb.size
          have HM : Hid ((A.app (.cons a l t m k .nil)).marks = (A.marks.app m.marks).app k.marks) := Lib.hid (by rw [Bls.marks_app]; simp only [Bls.marks, Ins.app_nil, Ins.app_assoc])
          clear hE hA hr hi1 hsz hT hg
          go_wp2_with fail
          refine (marksI_any _ _ m _ _ _ (Nat.lt_succ_self _) hms2 (insS.sl_on hm (Kept.alloc _))).mono ?_
          rintro e w1 ⟨up, uc, rfl, hb1, hu⟩
          have hs1 := hb1.size
          have KX := (Known.made wr 50 #[.int .i64 a, .int .i64 l, .string t, .slice mp m.len mc, .slice kp k.len kc]).on hb1
          simp only [World.size_alloc] at hs1 hu
          have hbw : Below wr.heap.size wr w1 := ((below_new0 _ _).trans (hb1.mono (by simp)))
          have ho2 := hown.below hbw
          have hl3 := hown.lt
          have hs := Shp.src_of (insS.sl_on hu (q' := Shp.kind (fun _ => False) w.heap.size u3) (Kept.mono fun k' h' _ => ⟨.inr (by omega), fun e => by have := hl3 _ e; omega⟩))
          have HO2 := Lib.hid ho2
          have HS := Lib.hid hs
          have HBW := Lib.hid hbw
          clear c0 c1 c2 c3 c4 hm hown hu ho2 hs hb1 hbw
          have keep : ∀ w2 : World, w1.grownBy w2 u3.ownBlock → w2.cell? ⟨wr.heap.size, 4, none⟩ = some (.slice kp k.len kc) := fun w2 h2 =>
            (show Known w2 wr.heap.size 50 #[.int .i64 a, .int .i64 l, .string t, .slice mp m.len mc, .slice kp k.len kc] from (h2.block wr.heap.size KX.lt (fun e => by have := hl3 _ e.symm; omega)).trans KX).cell 4
          have keepk : ∀ w2 : World, w1.grownBy w2 u3.ownBlock → blsS.sl (fun k => q k ∧ k < w.heap.size) w2 (.slice kp k.len kc) k := fun w2 h2 =>
            blsS.sl_on hk (fun k hq hl => ⟨hq, ((HBW.out.mono hsb).grown h2 (by omega) (fun k hk => (hl3 k hk).1)).block k hq.2⟩)
          have HK := Lib.hid keep
          have HKK := Lib.hid keepk
          clear keep keepk hk
          go_wp2_with (at_builtin; go_must (refine append_shp insS tyI _ rfl _ _ rfl HO2.out rfl HS.out rfl (by omega) (by omega) ?_); intro v' w2 hown' hgrow hbel _; have k4 := HK.out w2 hgrow)
          have hg2 := hgrow.size
          refine (ih _ k _ _ _ hks hks2 (HKK.out _ hgrow)).mono ?_
          rintro e w3 ⟨up2, uc2, rfl, hb3, hu⟩
          have hs3 := hb3.size
          have hl4 := hown'.lt
          have ho2 := hown'.below hb3
          have hs := Shp.src_of (insS.sl_on hu (q' := Shp.kind (fun _ => False) w.heap.size v') (Kept.mono fun k' h' _ => ⟨.inr (by omega), fun e => by have := hl4 _ e; omega⟩))
          have hb4 : Below w.heap.size w w3 := (hbel _ (hb.trans (HBW.out.mono hsb))).trans (hb3.mono (by omega))
          have HO3 := Lib.hid ho2
          have HS3 := Lib.hid hs
          have HB4 := Lib.hid hb4
          have hlam : insS.len (A.marks.app m.marks) ≤ 2000000 := by show (A.marks.app m.marks).len ≤ _; rw [Ins.len_app]; change insS.len A.marks + insS.len m.marks ≤ _; omega
          clear hs ho2 hown' hgrow hbel hb3 hb4 hu
          go_wp2_with (at_builtin; go_must (refine append_shp insS tyI _ rfl _ _ rfl HO3.out rfl HS3.out rfl (by show (insS.len (A.marks.app m.marks) + insS.len k.marks) * 89 ≤ _; omega) (by omega) ?_); intro v3 w4 hown' hgrow hbel _)
          have HG2 := HG.out
          have HG3 := HGG.out
          simp only [Bls.len] at HG2 HG3
          go_roundg (r.len + 1)
          case measure => omega
          case rel =>
            have hl : (A.app (.cons a l t m k .nil)).len = i + 1 := by rw [Bls.len_app, HI.out]; rfl
            exact ⟨A.app (.cons a l t m k .nil), r, by rw [Bls.app_assoc]; exact HAR.out, by rw [hl]; omega, by omega, by rw [hl]; go_num, by rw [HM.out]; exact hown', hbel _ HB4.out, by rw [hl]; exact HT.out⟩
end Go.Proofs.YtibmemaciahofaaDoor
