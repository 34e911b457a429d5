/-
  The reference's marks of blocks. Conditions: those typed in each theorem.
-/
import Derived.Test.YtibmemaciahofaaDoorOutMarks3
namespace Go.Proofs.YtibmemaciahofaaDoor
open Go.RowKit Doc
set_option linter.unusedVariables false
attribute [local go_sem ↓] Go.wp_at_zero Go.wp_at_succ

set_option maxRecDepth 10000 in
set_option maxHeartbeats 4000000 in
theorem marksR_any : ∀ (N : Nat) (q : Nat → Prop) (L : Bls) (p : Option Addr) (c : Nat) (w : World), L.size < N → L.size ≤ 1000000 → blsS.sl q w (.slice p L.len c) L →
    Calls Tryd.prog 20 #[.slice p L.len c] w fun e w' => ∃ p c, e = .returned (.slice p L.marks.len c) ∧ Below w.heap.size w w' ∧ insS.sl (fun k => q k ∨ w.heap.size ≤ k) w' (.slice p L.marks.len c) L.marks := by
  intro N
  induction N with
  | zero => intro q L p c w hN; exact absurd hN (Nat.not_lt_zero _)
  | succ N ih =>
    intro q L p c w hN hM hv
    obtain ⟨hF, -, hnc, hc⟩ := Shp.rest_start hv
    have hlen := L.len_size
    obtain ⟨n, hn⟩ : ∃ n, n = L.len := ⟨_, rfl⟩
    rw [← hn] at hlen hnc ⊢
    have HN := Lib.hid hn
    clear hn hv
    go_enter Tryd.func20, Tryd.ntmps20
    go_wp2_with fail
    go_loopg [3, 4] (n + 1) (fun g s3 s4 wr => ∃ (A R : Bls), A.app R = L ∧ A.len + R.len = n ∧ R.len < g ∧ s4 = .int .i64 A.len ∧ insS.own 46 (fun k => q k ∧ k < w.heap.size) w.heap.size wr s3 A.marks ∧ Below w.heap.size w wr ∧ blsS.rest q w p A.len R)
    case atStart => exact ⟨.nil, L, rfl, by simp [Bls.len]; exact HN.out.symm, by rw [← HN.out]; omega, rfl, Shp.own.nil, Below.refl _ _, hF⟩
    case round =>
      obtain ⟨A, R, hAR, hi1, hg, rfl, hown, hb, hR⟩ := hrel
      have HAR := Lib.hid hAR
      generalize hi : A.len = i at *
      have HI := Lib.hid hi
      clear hAR hi
      cases R with
      | nil =>
        have g1 : decide (i < n) = false := by simp [Bls.len] at hi1; simp; omega
        have HO := Lib.hid hown
        clear hi1 hR hown
        go_wp2_with fail
        obtain ⟨up, uc, rfl⟩ := HO.out.form
        go_ret
        have e1 : A = L := by have := HAR.out; simpa using this
        subst e1
        exact ⟨_, _, rfl, hb, insS.sl_on HO.out.sl (Kept.mono fun k hk _ => by rcases hk with hk | hk; exact .inl hk.1; exact .inr hk)⟩
      | cons a l t m k r =>
        rcases hR with hR | ⟨b, o, ys, rfl, hqb, hbl, hA, hE⟩
        · cases hR
        · have hS0 : ∃ mp mc kp kc, ∀ W, Below w.heap.size w W → W.cell? ⟨b, o + i * 5 + 3, none⟩ = some (.slice mp m.len mc) ∧ W.cell? ⟨b, o + i * 5 + 4, none⟩ = some (.slice kp k.len kc) ∧ insS.sl (fun k => q k ∧ k < w.heap.size) W (.slice mp m.len mc) m ∧ blsS.sl (fun k => q k ∧ k < w.heap.size) W (.slice kp k.len kc) k := by
            obtain ⟨mp, mc, kp, kc, c0, c1, c2, c3, c4, hm, hk, hr⟩ := hE.head hA
            exact ⟨mp, mc, kp, kc, fun W hW => ⟨(hW.cell (p := ⟨b, o + i * 5 + 3, none⟩) hbl).trans c3, (hW.cell (p := ⟨b, o + i * 5 + 4, none⟩) hbl).trans c4, insS.sl_on hm (Kept.belowLt hW), blsS.sl_on hk (Kept.belowLt hW)⟩⟩
          obtain ⟨mp, mc, kp, kc, hS0⟩ := hS0
          have g1 : decide (i < n) = true := by simp [Bls.len] at hi1; simp; omega
          have hin : i < n := by simp [Bls.len] at hi1; omega
          have hsz : L.size = A.size + (m.size + k.size + r.size + 1) := by rw [← HAR.out, Bls.size_app]; simp only [Bls.size]
          have hks : k.size < N := by omega
          have hks2 : k.size ≤ 1000000 := by omega
          have hms2 : m.size ≤ 1000000 := by omega
          have hla : insS.len A.marks ≤ 1000000 := by show A.marks.len ≤ _; have := A.marks.len_size; have := A.marks_size; omega
          have hlk : insS.len k.marks ≤ 1000000 := by show k.marks.len ≤ _; have := k.marks.len_size; have := k.marks_size; omega
          have hlm : insS.len m.marks ≤ 1000000 := by show m.marks.len ≤ _; have := m.marks_len; omega
          have hlam : insS.len (A.marks.app m.marks) ≤ 2000000 := by show (A.marks.app m.marks).len ≤ _; rw [Ins.len_app]; change insS.len A.marks + insS.len m.marks ≤ _; omega
          have hT : blsS.rest q w (some ⟨b, o, none⟩) (i + 1) r := .inr ⟨b, o, ys, rfl, hqb, hbl, hA, hE.tail⟩
          have HT := Lib.hid hT
          have HG := Lib.hid hi1
          have HGG := Lib.hid hg
          have HM : Hid ((A.app (.cons a l t m k .nil)).marks = (A.marks.app m.marks).app k.marks) := Lib.hid (by rw [Bls.marks_app]; simp only [Bls.marks, Ins.app_nil, Ins.app_assoc])
          have hi0 : (0 : Int) ≤ (i : Int) := by omega
          have hii : (i : Int) < (n : Int) := by omega
          have hm1 := fun (W : World) (hW : Below w.heap.size w W) => inMarks_any _ _ m mp mc W (Nat.lt_succ_self _) hms2 (hS0 W hW).2.2.1
          have hk1 := fun (W : World) (hW : Below w.heap.size w W) => ih _ k kp kc W hks hks2 (hS0 W hW).2.2.2
          have HC : Hid (∀ W, Below w.heap.size w W → W.cell? ⟨b, o + i * 5 + 3, none⟩ = some (.slice mp m.len mc) ∧ W.cell? ⟨b, o + i * 5 + 4, none⟩ = some (.slice kp k.len kc)) := Lib.hid (fun W hW => ⟨(hS0 W hW).1, (hS0 W hW).2.1⟩)
          have HM1 := Lib.hid hm1
          have HK1 := Lib.hid hk1
          have HO := Lib.hid hown
          have HB := Lib.hid hb
          obtain ⟨c3, c4⟩ := HC.out wr hb
          clear hE hA hi1 hsz hT hg hS0 hm1 hk1 ih hown hb
          go_wp2_with fail
          have hb := HB.out.drew
          have O0 := HO.out.below (Below.refl _ _).drew
          have hql : ∀ k, (q k ∧ k < w.heap.size) → k < w.heap.size := fun k h => h.2
          clear c3 c4
          obtain ⟨c3, c4⟩ := HC.out _ hb
          go_region_held3 (fun W => W.cell? ⟨b, o + i * 5 + 3, none⟩ = some (.slice mp m.len mc) ∧ W.cell? ⟨b, o + i * 5 + 4, none⟩ = some (.slice kp k.len kc))
            (exact HC.out _ hb)
            (first
              | (go_at_call 44; (with_reducible refine (HM1.out _ hb).mono ?_); rintro e w1 ⟨up, uc, rfl, hb1, hu⟩; have S1 := insS.sl_on hu (Kept.mono fun k h _ => kind_new O0.lt hb.size hql k h); have hb := below_then hb hb1; have O0 := O0.below hb1; (try have S2 := insS.sl_on S2 (Kept.below hb1)); clear hb1 hu)
              | (go_at_call 20; (with_reducible refine (HK1.out _ hb).mono ?_); rintro e w1 ⟨up2, uc2, rfl, hb1, hu⟩; have S2 := insS.sl_on hu (Kept.mono fun k h _ => kind_new O0.lt hb.size hql k h); have hb := below_then hb hb1; have O0 := O0.below hb1; (try have S1 := insS.sl_on S1 (Kept.below hb1)); clear hb1 hu)
              | (refine step_append_shp insS tyI _ (by rfl) _ _ (by rfl) O0 (by rfl) (Shp.src_of S1) (by rfl) (by omega) hb.size ?_; intro v' w2 O1 hgrow hbel hkind; have hb := hbel _ hb; have O0 := O1; (try have S2 := insS.sl_on S2 hkind); clear S1 O1)
              | (refine step_append_shp insS tyI _ (by rfl) _ _ (by rfl) O0 (by rfl) (Shp.src_of S2) (by rfl) (by show (insS.len (A.marks.app m.marks) + insS.len k.marks) * 89 ≤ _; omega) hb.size ?_; intro v3 w3 O1 hgrow hbel hkind; have hb := hbel _ hb; have O0 := O1; clear S2 O1)
              | fail)
          have HO2 := Lib.hid O0
          clear O0 hgrow hbel hkind
          go_wp2_with fail
          have HG2 := HG.out
          have HG3 := HGG.out
          simp only [Bls.len] at HG2 HG3
          go_roundg (r.len + 1)
          case measure => omega
          case rel =>
            have hl : (A.app (.cons a l t m k .nil)).len = i + 1 := by rw [Bls.len_app, HI.out]; rfl
            exact ⟨A.app (.cons a l t m k .nil), r, by rw [Bls.app_assoc]; exact HAR.out, by rw [hl]; omega, by omega, by rw [hl]; go_num, by rw [HM.out]; exact HO2.out, hb, by rw [hl]; exact HT.out⟩
end Go.Proofs.YtibmemaciahofaaDoor
