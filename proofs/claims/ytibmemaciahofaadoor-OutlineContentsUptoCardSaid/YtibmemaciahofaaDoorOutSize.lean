/-
  How many blocks and elements there are, as the laws count them. Conditions: those typed in each theorem.
-/
import Derived.Test.YtibmemaciahofaaDoorDocMem
import Derived.IntWalk
namespace Go.Proofs.YtibmemaciahofaaDoor.Doc
/-- elements, counted up to about 500 -/
def Ins.cnt : Nat → Ins → Nat
  | n, .nil => n
  | n, .cons _ _ _ _ _ k r => if n < 500 then Ins.cnt (n + 1 + Ins.cnt 0 k) r else n
/-- blocks and elements, counted up to about 500 -/
def Bls.cnt : Nat → Bls → Nat
  | n, .nil => n
  | n, .cons _ _ _ i k r => if n < 500 then Bls.cnt (n + 1 + Ins.cnt 0 i + Bls.cnt 0 k) r else n
theorem Ins.cnt_cons (n : Nat) (a : Int) (t : ByteArray) (s : Int) (m h : ByteArray) (k r : Ins) : Ins.cnt n (.cons a t s m h k r) = if n < 500 then Ins.cnt (n + 1 + Ins.cnt 0 k) r else n := by rw [Ins.cnt]
theorem Bls.cnt_cons (n : Nat) (a l : Int) (t : ByteArray) (i : Ins) (k r : Bls) : Bls.cnt n (.cons a l t i k r) = if n < 500 then Bls.cnt (n + 1 + Ins.cnt 0 i + Bls.cnt 0 k) r else n := by rw [Bls.cnt]
theorem Ins.cnt_le : ∀ (l : Ins) (n : Nat), Ins.cnt n l ≤ n + l.size
  | .nil, n => Nat.le_refl _
  | .cons a t s m h k r, n => by
    have h1 := Ins.cnt_le k 0
    unfold Ins.cnt
    split
    · have h2 := Ins.cnt_le r (n + 1 + Ins.cnt 0 k)
      simp only [Ins.size]; omega
    · omega
theorem Bls.cnt_le : ∀ (l : Bls) (n : Nat), Bls.cnt n l ≤ n + l.size
  | .nil, n => Nat.le_refl _
  | .cons a l t i k r, n => by
    have h1 := Bls.cnt_le k 0
    have h3 := Ins.cnt_le i 0
    unfold Bls.cnt
    split
    · have h2 := Bls.cnt_le r (n + 1 + Ins.cnt 0 i + Bls.cnt 0 k)
      simp only [Bls.size]; omega
    · omega
end Go.Proofs.YtibmemaciahofaaDoor.Doc
namespace Go.Proofs.YtibmemaciahofaaDoor
open Go.RowKit Doc
set_option linter.unusedVariables false
attribute [local go_sem ↓] Go.wp_at_zero Go.wp_at_succ

set_option maxRecDepth 20000 in
set_option maxHeartbeats 1000000 in
theorem elements_any : ∀ (N : Nat) (q : Nat → Prop) (L : Ins) (p : Option Addr) (c : Nat) (w : World), L.size < N → L.size ≤ 1000000 → insS.sl q w (.slice p L.len c) L →
    Calls Tryd.prog 33 #[.slice p L.len c] w fun e w' => e = .returned (.int .i64 (Ins.cnt 0 L : Nat)) ∧ Below w.heap.size w w' := by
  intro N
  induction N with
  | zero => intro q L p c w hN; exact absurd hN (Nat.not_lt_zero _)
  | succ N ih =>
    intro q L p c w hN hM hv
    obtain ⟨hF, -, hnc, hc⟩ := Shp.rest_start hv
    have hlen := L.len_size
    obtain ⟨n, hn⟩ : ∃ n, n = L.len := ⟨_, rfl⟩
    rw [← hn] at hlen hnc ⊢
    have HN := Lib.hid hn
    clear hn hv
    go_enter Tryd.func33, Tryd.ntmps33
    go_wp2_with fail
    go_loopg [3, 4] (n + 1) (fun g s3 s4 wr => ∃ (A R : Ins) (k : Nat), A.app R = L ∧ A.len + R.len = n ∧ R.len < g ∧ s4 = .int .i64 A.len ∧ s3 = .int .i64 k ∧ k ≤ A.size ∧ Ins.cnt k R = Ins.cnt 0 L ∧ Below w.heap.size w wr ∧ insS.rest q w p A.len R)
    case atStart => exact ⟨.nil, L, 0, rfl, by simp [Ins.len]; exact HN.out.symm, by rw [← HN.out]; omega, rfl, rfl, Nat.zero_le _, rfl, Below.refl _ _, hF⟩
    case round =>
      obtain ⟨A, R, m, hAR, hi1, hg, rfl, rfl, hmA, hcnt, hb, hR⟩ := hrel
      have HAR := Lib.hid hAR
      have HC := Lib.hid hcnt
      have hsz := Ins.size_app A R
      rw [hAR] at hsz
      generalize hi : A.len = i at *
      have HI := Lib.hid hi
      clear hAR hi hcnt
      cases R with
      | nil =>
        have g1 : decide (i < n) = false := by simp [Ins.len] at hi1; simp; omega
        clear hi1 hR
        go_wp2_with fail
        go_ret
        have e1 := HC.out
        simp only [Ins.cnt] at e1
        exact ⟨ret_int (by rw [e1]), hb⟩
      | cons a t s o' h k r =>
        rcases hR with hR | ⟨b, o, ys, rfl, hqb, hbl, hA, hE⟩
        · cases hR
        obtain ⟨kp, kc, c0, c1, c2, c3, c4, c5, hk, hr⟩ := hE.head hA
        simp only [Ins.size] at hsz
        have hks : k.size < N := by omega
        have hks2 : k.size ≤ 1000000 := by omega
        have hT : insS.rest q w (some ⟨b, o, none⟩) (i + 1) r := .inr ⟨b, o, ys, rfl, hqb, hbl, hA, hE.tail⟩
        have HT := Lib.hid hT
        have g1 : decide (i < n) = true := by simp [Ins.len] at hi1; simp; omega
        have hin : i < n := by simp [Ins.len] at hi1; omega
        have HG := Lib.hid hi1
        have HGG := Lib.hid hg
        have hel := fun W (hW : Below w.heap.size w W) => ih q k kp kc W hks hks2 (insS.sl_on hk (Kept.below hW))
        have d5 := (hb.cell (p := ⟨b, o + i * 6 + 5, none⟩) hbl).trans c5
        have hz := hb.size
        have hbl2 : b < wr.heap.size := by omega
        have hkc := Ins.cnt_le k 0
        obtain ⟨kn, hkn⟩ : ∃ kn, kn = Ins.cnt 0 k := ⟨_, rfl⟩
        rw [← hkn] at hel hkc
        have HK := Lib.hid hkn
        have HB := Lib.hid hb
        have HEL := Lib.hid (hel _ hb)
        clear hk hr hE hA hkn ih hT hi1 hg hel hb c0 c1 c2 c3 c4 c5 hqb
        by_cases h5 : m < 500
        · have g2 : decide ((m : Int) < 500) = true := by simp; omega
          go_wp2_with fail
          refine HEL.out.mono ?_
          rintro e w2 ⟨rfl, hb2⟩
          have hb3 := below_then HB.out hb2
          have HG2 := HG.out
          have HG3 := HGG.out
          simp only [Ins.len] at HG2 HG3
          go_wp2_with fail
          go_roundg (r.len + 1)
          case measure => omega
          case rel =>
            have hl : (A.app (.cons a t s o' h k .nil)).len = i + 1 := by rw [Ins.len_app, HI.out]; rfl
            refine ⟨A.app (.cons a t s o' h k .nil), r, m + 1 + kn, by rw [Ins.app_assoc]; exact HAR.out, by rw [hl]; omega, by omega, by rw [hl]; go_num, by go_num, ?_, ?_, hb3, by rw [hl]; exact HT.out⟩
            · rw [Ins.size_app]; simp only [Ins.size]; omega
            · have e1 := HC.out
              rw [Ins.cnt_cons, if_pos h5, ← HK.out] at e1
              exact e1
        · have g2 : decide ((m : Int) < 500) = false := by simp; omega
          have hb := HB.out
          go_wp2_with fail
          go_ret
          have e1 := HC.out
          rw [Ins.cnt_cons, if_neg h5] at e1
          exact ⟨ret_int (by rw [e1]), hb⟩

set_option maxRecDepth 20000 in
set_option maxHeartbeats 1000000 in
theorem size_any : ∀ (N : Nat) (q : Nat → Prop) (L : Bls) (p : Option Addr) (c : Nat) (w : World), L.size < N → L.size ≤ 1000000 → blsS.sl q w (.slice p L.len c) L →
    Calls Tryd.prog 12 #[.slice p L.len c] w fun e w' => e = .returned (.int .i64 (Bls.cnt 0 L : Nat)) ∧ Below w.heap.size w w' := by
  intro N
  induction N with
  | zero => intro q L p c w hN; exact absurd hN (Nat.not_lt_zero _)
  | succ N ih =>
    intro q L p c w hN hM hv
    obtain ⟨hF, -, hnc, hc⟩ := Shp.rest_start hv
    have hlen := L.len_size
    obtain ⟨n, hn⟩ : ∃ n, n = L.len := ⟨_, rfl⟩
    rw [← hn] at hlen hnc ⊢
    have HN := Lib.hid hn
    clear hn hv
    go_enter Tryd.func12, Tryd.ntmps12
    go_wp2_with fail
    go_loopg [3, 4] (n + 1) (fun g s3 s4 wr => ∃ (A R : Bls) (k : Nat), A.app R = L ∧ A.len + R.len = n ∧ R.len < g ∧ s4 = .int .i64 A.len ∧ s3 = .int .i64 k ∧ k ≤ A.size ∧ Bls.cnt k R = Bls.cnt 0 L ∧ Below w.heap.size w wr ∧ blsS.rest q w p A.len R)
    case atStart => exact ⟨.nil, L, 0, rfl, by simp [Bls.len]; exact HN.out.symm, by rw [← HN.out]; omega, rfl, rfl, Nat.zero_le _, rfl, Below.refl _ _, hF⟩
    case round =>
      obtain ⟨A, R, m, hAR, hi1, hg, rfl, rfl, hmA, hcnt, hb, hR⟩ := hrel
      have HAR := Lib.hid hAR
      have HC := Lib.hid hcnt
      have hsz := Bls.size_app A R
      rw [hAR] at hsz
      generalize hi : A.len = i at *
      have HI := Lib.hid hi
      clear hAR hi hcnt
      cases R with
      | nil =>
        have g1 : decide (i < n) = false := by simp [Bls.len] at hi1; simp; omega
        clear hi1 hR
        go_wp2_with fail
        go_ret
        have e1 := HC.out
        simp only [Bls.cnt] at e1
        exact ⟨ret_int (by rw [e1]), hb⟩
      | cons a l t x k r =>
        rcases hR with hR | ⟨b, o, ys, rfl, hqb, hbl, hA, hE⟩
        · cases hR
        obtain ⟨mp, mc, kp, kc, c0, c1, c2, c3, c4, hm, hk, hr⟩ := hE.head hA
        simp only [Bls.size] at hsz
        have hks : k.size < N := by omega
        have hks2 : k.size ≤ 1000000 := by omega
        have hxs2 : x.size ≤ 1000000 := by omega
        have hT : blsS.rest q w (some ⟨b, o, none⟩) (i + 1) r := .inr ⟨b, o, ys, rfl, hqb, hbl, hA, hE.tail⟩
        have HT := Lib.hid hT
        have g1 : decide (i < n) = true := by simp [Bls.len] at hi1; simp; omega
        have hin : i < n := by simp [Bls.len] at hi1; omega
        have HG := Lib.hid hi1
        have HGG := Lib.hid hg
        have hel := fun W (hW : Below w.heap.size w W) => elements_any _ q x mp mc W (Nat.lt_succ_self _) hxs2 (insS.sl_on hm (Kept.below hW))
        have hsi := fun W (hW : Below w.heap.size w W) => ih q k kp kc W hks hks2 (blsS.sl_on hk (Kept.below hW))
        have d3 := (hb.cell (p := ⟨b, o + i * 5 + 3, none⟩) hbl).trans c3
        have d4 := (hb.cell (p := ⟨b, o + i * 5 + 4, none⟩) hbl).trans c4
        have hz := hb.size
        have hbl2 : b < wr.heap.size := by omega
        have hkc := Bls.cnt_le k 0
        have hxc := Ins.cnt_le x 0
        obtain ⟨kn, hkn⟩ : ∃ kn, kn = Bls.cnt 0 k := ⟨_, rfl⟩
        obtain ⟨xn, hxn⟩ : ∃ xn, xn = Ins.cnt 0 x := ⟨_, rfl⟩
        rw [← hkn] at hsi hkc
        rw [← hxn] at hel hxc
        have HK := Lib.hid hkn
        have HX := Lib.hid hxn
        have HB := Lib.hid hb
        have hC1 := fun y => hel (gr wr y) (below_then hb (gr_below wr y))
        have hC2 := fun y => hsi (gr wr y) (below_then hb (gr_below wr y))
        clear hk hm hr hE hA hkn hxn ih hT hi1 hg hel hsi hb c0 c1 c2 c3 c4 hqb
        by_cases h5 : m < 500
        · have g2 : decide ((m : Int) < 500) = true := by simp; omega
          go_upto_region 5 with fail
          have w1 : IntKind.i64.wrap ((m : Int) + 1) = (m : Int) + 1 := IntWalk.i64_in _ (by omega)
          have w2 : IntKind.i64.wrap ((m : Int) + 1 + (xn : Int)) = (m : Int) + 1 + (xn : Int) := IntWalk.i64_in _ (by omega)
          have w3 : IntKind.i64.wrap ((m : Int) + 1 + (xn : Int) + (kn : Int)) = (m : Int) + 1 + (xn : Int) + (kn : Int) := IntWalk.i64_in _ (by omega)
          refine wp_region_gr (by kernel_rfl) (by kernel_rfl) ?_
          repeat (go_big_quiet_step (first | (go_at_call 33; exact gr_call (hC1 _)) | (go_at_call 12; exact gr_call (hC2 _))))
          with_reducible refine wpQuiet_nil ?_
          intro _ hw'; obtain ⟨w6, hw''⟩ := hw'; subst hw''
          have hb3 := below_then HB.out (gr_below wr w6)
          have HG2 := HG.out
          have HG3 := HGG.out
          simp only [Bls.len] at HG2 HG3
          clear w1 w2 w3
          go_wp2_with fail
          go_roundg (r.len + 1)
          case measure => omega
          case rel =>
            have hl : (A.app (.cons a l t x k .nil)).len = i + 1 := by rw [Bls.len_app, HI.out]; rfl
            refine ⟨A.app (.cons a l t x k .nil), r, m + 1 + xn + kn, by rw [Bls.app_assoc]; exact HAR.out, by rw [hl]; omega, by omega, by rw [hl]; go_num, by go_num, ?_, ?_, hb3, by rw [hl]; exact HT.out⟩
            · rw [Bls.size_app]; simp only [Bls.size]; omega
            · have e1 := HC.out
              rw [Bls.cnt_cons, if_pos h5, ← HK.out, ← HX.out] at e1
              exact e1
        · have g2 : decide ((m : Int) < 500) = false := by simp; omega
          have hb := HB.out
          go_wp2_with fail
          go_ret
          have e1 := HC.out
          rw [Bls.cnt_cons, if_neg h5] at e1
          exact ⟨ret_int (by rw [e1]), hb⟩
end Go.Proofs.YtibmemaciahofaaDoor
