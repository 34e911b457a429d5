/-
  How many elements there are, as the laws count them; the law InlinePlain. Condition: the library's MaxLen holds a number.
-/
import Derived.Test.YtegcacnmcdkfiaaGreatDoorTv
import Derived.Test.YtegcacnmcdkfiaaGreatDoorYb
import Derived.Test.YtegcacnmcdkfiaaGreatDoorYd
import Derived.IntWalk

namespace Go.Proofs.YtegcacnmcdkfiaaGreatDoor
open Go.RowKit Doc
set_option linter.unusedVariables false
attribute [local go_sem ↓] Go.wp_at_zero Go.wp_at_succ

set_option maxRecDepth 20000 in
set_option maxHeartbeats 1000000 in
theorem isize_any : ∀ (N : Nat) (q : Nat → Prop) (L : Ins) (p : Option Addr) (c : Nat) (w : World), L.size < N → L.size ≤ 1000000 → insS.sl q w (.slice p L.len c) L →
    Calls Tryz.prog 20 #[.slice p L.len c] w fun e w' => e = .returned (.int .i64 (Ins.cnt 0 L : Nat)) ∧ Below w.heap.size w w' := by
  intro N
  induction N with
  | zero => intro q L p c w hN; exact absurd hN (Nat.not_lt_zero _)
  | succ N ih =>
    intro q L p c w hN hM hv
    obtain ⟨hF, -, hnc, hc⟩ := Shp.rest_start hv
    have hlen := L.len_size
    obtain ⟨n, hn⟩ : ∃ n, n = L.len := ⟨_, rfl⟩
    rw [← hn] at hlen hnc ⊢
    have HN := Lib.hid hn
    clear hn hv
    go_enter Tryz.func20, Tryz.ntmps20
    go_wp2_with fail
    go_loopg [3, 4] (n + 1) (fun g s3 s4 wr => ∃ (A R : Ins) (k : Nat), A.app R = L ∧ A.len + R.len = n ∧ R.len < g ∧ s4 = .int .i64 A.len ∧ s3 = .int .i64 k ∧ k ≤ A.size ∧ Ins.cnt k R = Ins.cnt 0 L ∧ Below w.heap.size w wr ∧ insS.rest q w p A.len R)
    case atStart => exact ⟨.nil, L, 0, rfl, by simp [Ins.len]; exact HN.out.symm, by rw [← HN.out]; omega, rfl, rfl, Nat.zero_le _, rfl, Below.refl _ _, hF⟩
    case round =>
      obtain ⟨A, R, m, hAR, hi1, hg, rfl, rfl, hmA, hcnt, hb, hR⟩ := hrel
      have HAR := Lib.hid hAR
      have HC := Lib.hid hcnt
      have hsz := Ins.size_app A R
      rw [hAR] at hsz
      generalize hi : A.len = i at *
      have HI := Lib.hid hi
      clear hAR hi hcnt
      cases R with
      | nil =>
        have g1 : decide (i < n) = false := by simp [Ins.len] at hi1; simp; omega
        clear hi1 hR
        go_wp2_with fail
        go_ret
        have e1 := HC.out
        simp only [Ins.cnt] at e1
        exact ⟨ret_int (by rw [e1]), hb⟩
      | cons a t s o' h k r =>
        rcases hR with hR | ⟨b, o, ys, rfl, hqb, hbl, hA, hE⟩
        · cases hR
        obtain ⟨kp, kc, c0, c1, c2, c3, c4, c5, hk, hr⟩ := hE.head hA
        simp only [Ins.size] at hsz
        have hks : k.size < N := by omega
        have hks2 : k.size ≤ 1000000 := by omega
        have hT : insS.rest q w (some ⟨b, o, none⟩) (i + 1) r := .inr ⟨b, o, ys, rfl, hqb, hbl, hA, hE.tail⟩
        have HT := Lib.hid hT
        have g1 : decide (i < n) = true := by simp [Ins.len] at hi1; simp; omega
        have hin : i < n := by simp [Ins.len] at hi1; omega
        have HG := Lib.hid hi1
        have HGG := Lib.hid hg
        have hel := fun W (hW : Below w.heap.size w W) => ih q k kp kc W hks hks2 (insS.sl_on hk (Kept.below hW))
        have d5 := (hb.cell (p := ⟨b, o + i * 6 + 5, none⟩) hbl).trans c5
        have hz := hb.size
        have hbl2 : b < wr.heap.size := by omega
        have hkc := Ins.cnt_le k 0
        obtain ⟨kn, hkn⟩ : ∃ kn, kn = Ins.cnt 0 k := ⟨_, rfl⟩
        rw [← hkn] at hel hkc
        have HK := Lib.hid hkn
        have HB := Lib.hid hb
        have HEL := Lib.hid (hel _ hb)
        clear hk hr hE hA hkn ih hT hi1 hg hel hb c0 c1 c2 c3 c4 c5 hqb
        by_cases h5 : m < 500
        · have g2 : decide ((m : Int) < 500) = true := by simp; omega
          go_wp2_with fail
          refine HEL.out.mono ?_
          rintro e w2 ⟨rfl, hb2⟩
          have hb3 := below_then HB.out hb2
          have HG2 := HG.out
          have HG3 := HGG.out
          simp only [Ins.len] at HG2 HG3
          go_wp2_with fail
          go_roundg (r.len + 1)
          case measure => omega
          case rel =>
            have hl : (A.app (.cons a t s o' h k .nil)).len = i + 1 := by rw [Ins.len_app, HI.out]; rfl
            refine ⟨A.app (.cons a t s o' h k .nil), r, m + 1 + kn, by rw [Ins.app_assoc]; exact HAR.out, by rw [hl]; omega, by omega, by rw [hl]; go_num, by go_num, ?_, ?_, hb3, by rw [hl]; exact HT.out⟩
            · rw [Ins.size_app]; simp only [Ins.size]; omega
            · have e1 := HC.out
              rw [Ins.cnt_cons, if_pos h5, ← HK.out] at e1
              exact e1
        · have g2 : decide ((m : Int) < 500) = false := by simp; omega
          have hb := HB.out
          go_wp2_with fail
          go_ret
          have e1 := HC.out
          rw [Ins.cnt_cons, if_neg h5] at e1
          exact ⟨ret_int (by rw [e1]), hb⟩

set_option maxRecDepth 10000 in
set_option maxHeartbeats 1000000 in
theorem law_plain (q : Nat → Prop) (L : Ins) (p : Option Addr) (c : Nat) (w : World) (hm : MX w) (hM : L.size ≤ 1000000) (hK : L.bulk ≤ 100000000000000) (hv : insS.sl q w (.slice p L.len c) L) : Calls Tryz.prog 5 #[.slice p L.len c] w fun e w' => e = .returned (.bool true) ∧ Below w.heap.size w w' := by
  have h1 := fun W (hb : Below w.heap.size w W) => isize_any _ q L p c W (Nat.lt_succ_self _) hM (insS.sl_on hv (Kept.below hb))
  have h2 := fun W (hb : Below w.heap.size w W) => plain_any q L p c W hM hK (insS.sl_on hv (Kept.below hb))
  have h3 := fun W (hb : Below w.heap.size w W) => plainR_any _ q L p c W (Nat.lt_succ_self _) hM hK (insS.sl_on hv (Kept.below hb))
  obtain ⟨n, hn⟩ : ∃ n, n = L.len := ⟨_, rfl⟩
  obtain ⟨z, hz⟩ : ∃ z, z = Ins.cnt 0 L := ⟨_, rfl⟩
  obtain ⟨T, hT⟩ : ∃ T : ByteArray, T = ⟨L.plain.toArray⟩ := ⟨_, rfl⟩
  rw [← hn] at h1 h2 h3 ⊢
  rw [← hz] at h1
  rw [← hT] at h2 h3
  have hzl : z ≤ 1000000 := by rw [hz]; have := Ins.cnt_le L 0; omega
  have H1 := Lib.hid h1
  have H2 := Lib.hid h2
  have H3 := Lib.hid h3
  have HM := Lib.hid hm
  clear h1 h2 h3 hm hv hn hz hT hM hK
  have hfin : ∀ W, Below w.heap.size w W → Calls Tryz.prog 12 #[] W fun e w' => e = .returned (.bool true) ∧ Below w.heap.size w w' := fun W hb => (known_any W (HM.out.below hb)).mono fun e w' ⟨h1, h2⟩ => ⟨h1, below_then hb h2⟩
  have HF := Lib.hid hfin
  clear hfin
  by_cases hl : 100 < n
  · have g1 : decide ((100 : Int) < (n : Int)) = true := decide_eq_true (by omega)
    have g1' : decide (100 < n) = true := decide_eq_true hl
    go_enter Tryz.func5, Tryz.ntmps5
    go_wp2_with fail
    refine (HF.out _ (Below.refl _ _)).mono ?_
    rintro e w1 ⟨rfl, hb1⟩
    go_wp2_with fail
    go_ret
    exact ⟨rfl, hb1⟩
  have g1 : decide ((100 : Int) < (n : Int)) = false := decide_eq_false (by omega)
  have g1' : decide (100 < n) = false := decide_eq_false hl
  by_cases hk : 400 < z
  · have g2 : decide ((400 : Int) < (z : Int)) = true := decide_eq_true (by omega)
    have g2' : decide (400 < z) = true := decide_eq_true hk
    go_enter Tryz.func5, Tryz.ntmps5
    go_wp2_with fail
    refine (H1.out _ (Below.refl _ _)).mono ?_
    rintro e w1 ⟨rfl, hb1⟩
    go_wp2_with fail
    refine (HF.out _ hb1).mono ?_
    rintro e w2 ⟨rfl, hb2⟩
    go_wp2_with fail
    go_ret
    exact ⟨rfl, hb2⟩
  have g2 : decide ((400 : Int) < (z : Int)) = false := decide_eq_false (by omega)
  have g2' : decide (400 < z) = false := decide_eq_false hk
  go_enter Tryz.func5, Tryz.ntmps5
  go_wp2_with fail
  refine (H1.out _ (Below.refl _ _)).mono ?_
  rintro e w1 ⟨rfl, hb1⟩
  go_wp2_with fail
  refine (H2.out _ hb1).mono ?_
  rintro e w2 ⟨rfl, hb2⟩
  have hb2 := below_then hb1 hb2
  go_wp2_with fail
  refine (H3.out _ hb2).mono ?_
  rintro e w3 ⟨rfl, hb3⟩
  have hb3 := below_then hb2 hb3
  go_wp2_with fail
  refine (HF.out _ hb3).mono ?_
  rintro e w4 ⟨rfl, hb4⟩
  go_wp2_with fail
  go_ret
  exact ⟨rfl, hb4⟩
end Go.Proofs.YtegcacnmcdkfiaaGreatDoor
