/-
  How many blocks and elements there are, as trclaw18 counts them; walked. Conditions: those typed in each theorem.
  The reference's text of blocks; walked. Conditions: those typed in each theorem.
-/
import Derived.Test.YthieinfonomeeaaGreatDoorAak
import Derived.IntWalk
import Derived.Test.YthieinfonomeeaaGreatDoorTab

namespace Go.Proofs.YthieinfonomeeaaGreatDoor
open Go.RowKit Doc
set_option linter.unusedVariables false
attribute [local go_sem ↓] Go.wp_at_zero Go.wp_at_succ

def Bls.pcnt : Nat → Bls → Nat
  | n, .nil => n
  | n, .cons _ _ _ i k r => if n < 500 then Bls.pcnt (n + 1 + i.len + Bls.pcnt 0 k) r else n
theorem Bls.pcnt_cons (n : Nat) (a l : Int) (t : ByteArray) (i : Ins) (k r : Bls) : Bls.pcnt n (.cons a l t i k r) = if n < 500 then Bls.pcnt (n + 1 + i.len + Bls.pcnt 0 k) r else n := by rw [Bls.pcnt]
theorem Bls.pcnt_le : ∀ (l : Bls) (n : Nat), Bls.pcnt n l ≤ n + l.size
  | .nil, n => Nat.le_refl _
  | .cons a l t i k r, n => by
    rw [Bls.pcnt_cons]
    have h1 := Bls.pcnt_le k 0
    have h2 := Bls.pcnt_le r (n + 1 + i.len + Bls.pcnt 0 k)
    have h3 := i.len_size
    simp only [Doc.Bls.size]
    split <;> omega
set_option maxRecDepth 20000 in
set_option maxHeartbeats 1000000 in
theorem rsize_any : ∀ (N : Nat) (q : Nat → Prop) (L : Bls) (p : Option Addr) (c : Nat) (w : World), L.size < N → L.size ≤ 1000000 → blsS.sl q w (.slice p L.len c) L →
    Calls Tryz.prog 19 #[.slice p L.len c] w fun e w' => e = .returned (.int .i64 (Bls.pcnt 0 L : Nat)) ∧ Below w.heap.size w w' := by
  intro N
  induction N with
  | zero => intro q L p c w hN; exact absurd hN (Nat.not_lt_zero _)
  | succ N ih =>
    intro q L p c w hN hM hv
    obtain ⟨hF, -, hnc, hc⟩ := Shp.rest_start hv
    have hlen := L.len_size
    obtain ⟨n, hn⟩ : ∃ n, n = L.len := ⟨_, rfl⟩
    rw [← hn] at hlen hnc ⊢
    have HN := Lib.hid hn
    clear hn hv
    go_enter Tryz.func19, Tryz.ntmps19
    go_wp2_with fail
    go_loopg [3, 4] (n + 1) (fun g s3 s4 wr => ∃ (A R : Bls) (k : Nat), A.app R = L ∧ A.len + R.len = n ∧ R.len < g ∧ s4 = .int .i64 A.len ∧ s3 = .int .i64 k ∧ k ≤ A.size ∧ Bls.pcnt k R = Bls.pcnt 0 L ∧ Below w.heap.size w wr ∧ blsS.rest q w p A.len R)
    case atStart => exact ⟨.nil, L, 0, rfl, by simp [Bls.len]; exact HN.out.symm, by rw [← HN.out]; omega, rfl, rfl, Nat.zero_le _, rfl, Below.refl _ _, hF⟩
    case round =>
      obtain ⟨A, R, m, hAR, hi1, hg, rfl, rfl, hmA, hcnt, hb, hR⟩ := hrel
      have HAR := Lib.hid hAR
      have HC := Lib.hid hcnt
      have hsz := Bls.size_app A R
      rw [hAR] at hsz
      generalize hi : A.len = i at *
      have HI := Lib.hid hi
      clear hAR hi hcnt
      cases R with
      | nil =>
        have g1 : decide (i < n) = false := by simp [Bls.len] at hi1; simp; omega
        clear hi1 hR
        go_wp2_with fail
        go_ret
        have e1 := HC.out
        simp only [Bls.pcnt] at e1
        exact ⟨ret_int (by rw [e1]), hb⟩
      | cons a l t x k r =>
        rcases hR with hR | ⟨b, o, ys, rfl, hqb, hbl, hA, hE⟩
        · cases hR
        obtain ⟨mp, mc, kp, kc, c0, c1, c2, c3, c4, hm, hk, hr⟩ := hE.head hA
        simp only [Bls.size] at hsz
        have hks : k.size < N := by omega
        have hks2 : k.size ≤ 1000000 := by omega
        have hxs2 : x.size ≤ 1000000 := by omega
        have hT : blsS.rest q w (some ⟨b, o, none⟩) (i + 1) r := .inr ⟨b, o, ys, rfl, hqb, hbl, hA, hE.tail⟩
        have HT := Lib.hid hT
        have g1 : decide (i < n) = true := by simp [Bls.len] at hi1; simp; omega
        have hin : i < n := by simp [Bls.len] at hi1; omega
        have HG := Lib.hid hi1
        have HGG := Lib.hid hg
        have hsi := fun W (hW : Below w.heap.size w W) => ih q k kp kc W hks hks2 (blsS.sl_on hk (Kept.below hW))
        have d3 := (hb.cell (p := ⟨b, o + i * 5 + 3, none⟩) hbl).trans c3
        have d4 := (hb.cell (p := ⟨b, o + i * 5 + 4, none⟩) hbl).trans c4
        have hz := hb.size
        have hbl2 : b < wr.heap.size := by omega
        have hkc := Bls.pcnt_le k 0
        have hxc : x.len ≤ x.size := x.len_size
        obtain ⟨kn, hkn⟩ : ∃ kn, kn = Bls.pcnt 0 k := ⟨_, rfl⟩
        obtain ⟨xn, hxn⟩ : ∃ xn, xn = x.len := ⟨_, rfl⟩
        rw [← hkn] at hsi hkc
        rw [← hxn] at hxc c3 d3
        have HK := Lib.hid hkn
        have HX := Lib.hid hxn
        have HB := Lib.hid hb
        have hC2 := fun y => hsi (gr wr y) (below_then hb (gr_below wr y))
        clear hk hm hr hE hA hkn hxn ih hT hi1 hg hsi hb c0 c1 c2 c3 c4 hqb
        by_cases h5 : m < 500
        · have g2 : decide ((m : Int) < 500) = true := by simp; omega
          go_upto_region 5 with fail
          have w1 : IntKind.i64.wrap ((m : Int) + 1) = (m : Int) + 1 := IntWalk.i64_in _ (by omega)
          have w2 : IntKind.i64.wrap ((m : Int) + 1 + (xn : Int)) = (m : Int) + 1 + (xn : Int) := IntWalk.i64_in _ (by omega)
          have w3 : IntKind.i64.wrap ((m : Int) + 1 + (xn : Int) + (kn : Int)) = (m : Int) + 1 + (xn : Int) + (kn : Int) := IntWalk.i64_in _ (by omega)
          refine wp_region_gr (by kernel_rfl) (by kernel_rfl) ?_
          repeat (go_big_quiet_step ((go_at_call 19; exact gr_call (hC2 _))))
          with_reducible refine wpQuiet_nil ?_
          intro _ hw'; obtain ⟨w6, hw''⟩ := hw'; subst hw''
          have hb3 := below_then HB.out (gr_below wr w6)
          have HG2 := HG.out
          have HG3 := HGG.out
          simp only [Bls.len] at HG2 HG3
          clear w1 w2 w3
          go_wp2_with fail
          go_roundg (r.len + 1)
          case measure => omega
          case rel =>
            have hl : (A.app (.cons a l t x k .nil)).len = i + 1 := by rw [Bls.len_app, HI.out]; rfl
            refine ⟨A.app (.cons a l t x k .nil), r, m + 1 + xn + kn, by rw [Bls.app_assoc]; exact HAR.out, by rw [hl]; omega, by omega, by rw [hl]; go_num, by go_num, ?_, ?_, hb3, by rw [hl]; exact HT.out⟩
            · rw [Bls.size_app]; simp only [Bls.size]; omega
            · have e1 := HC.out
              rw [Bls.pcnt_cons, if_pos h5, ← HK.out, ← HX.out] at e1
              exact e1
        · have g2 : decide ((m : Int) < 500) = false := by simp; omega
          have hb := HB.out
          go_wp2_with fail
          go_ret
          have e1 := HC.out
          rw [Bls.pcnt_cons, if_neg h5] at e1
          exact ⟨ret_int (by rw [e1]), hb⟩
end Go.Proofs.YthieinfonomeeaaGreatDoor

namespace Go.Proofs.YthieinfonomeeaaGreatDoor
open Go.RowKit Doc
set_option linter.unusedVariables false
attribute [local go_sem ↓] Go.wp_at_zero Go.wp_at_succ

set_option maxRecDepth 10000 in
set_option maxHeartbeats 4000000 in
theorem rbplain_any : ∀ (N : Nat) (q : Nat → Prop) (L : Bls) (p : Option Addr) (c : Nat) (w : World), L.size < N → L.size ≤ 1000000 → L.bulk ≤ 10000000000000 → blsS.sl q w (.slice p L.len c) L →
    Calls Tryz.prog 22 #[.slice p L.len c] w fun e w' => e = .returned (.string ⟨L.ptxt.toArray⟩) ∧ Below w.heap.size w w' := by
  intro N
  induction N with
  | zero => intro q L p c w hN; exact absurd hN (Nat.not_lt_zero _)
  | succ N ih =>
    intro q L p c w hN hM hK hv
    obtain ⟨hF, -, hnc, hc⟩ := Shp.rest_start hv
    have hlen := L.len_size
    obtain ⟨n, hn⟩ : ∃ n, n = L.len := ⟨_, rfl⟩
    rw [← hn] at hlen hnc ⊢
    have HN := Lib.hid hn
    clear hn hv
    go_enter Tryz.func22, Tryz.ntmps22
    go_wp2_with fail
    go_loopg [3, 4] (n + 1) (fun g s3 s4 wr => ∃ (A R : Bls) (T : ByteArray), A.app R = L ∧ A.len + R.len = n ∧ R.len < g ∧ s4 = .int .i64 A.len ∧ s3 = .string T ∧ T.data.toList = A.ptxt ∧ Below w.heap.size w wr ∧ blsS.rest q w p A.len R)
    case atStart => exact ⟨.nil, L, ⟨#[]⟩, rfl, by simp [Bls.len]; exact HN.out.symm, by rw [← HN.out]; omega, rfl, rfl, rfl, Below.refl _ _, hF⟩
    case round =>
      obtain ⟨A, R, T, hAR, hi1, hg, rfl, rfl, hT0, hb, hR⟩ := hrel
      have HAR := Lib.hid hAR
      have hts := str_size hT0
      have HT0 := Lib.hid hT0
      generalize hi : A.len = i at *
      have HI := Lib.hid hi
      clear hAR hi hT0
      cases R with
      | nil =>
        have g1 : decide (i < n) = false := by simp [Bls.len] at hi1; simp; omega
        clear hi1 hR hts
        go_wp2_with fail
        go_ret
        have e1 : A = L := by have := HAR.out; simpa using this
        subst e1
        exact ⟨congrArg (fun x => Ending.returned (.string x)) (ByteArray.ext (Array.toList_inj.1 HT0.out)), hb⟩
      | cons a l t ii k r =>
        rcases hR with hR | ⟨d, o, ys, rfl, hqb, hbl, hA, hE⟩
        · cases hR
        · obtain ⟨ip, ic, kp, kc, c0, c1, c2, c3, c4, hisl, hk, hr⟩ := (BEnc.on (Kept.below hb) hE).head (hA.below hbl hb)
          have g1 : decide (i < n) = true := by simp [Bls.len] at hi1; simp; omega
          have hin : i < n := by simp [Bls.len] at hi1; omega
          have hsz : L.size = A.size + (ii.size + k.size + r.size + 1) := by rw [← HAR.out, Bls.size_app]; simp only [Bls.size]
          have hbk : L.bulk = A.bulk + (t.size + 1 + ii.bulk + k.bulk + r.bulk) := by rw [← HAR.out, Bls.bulk_app]; simp only [Bls.bulk]
          have hks : k.size < N := by omega
          have hks2 : k.size ≤ 1000000 := by omega
          have his2 : ii.size ≤ 1000000 := by omega
          have hkb : k.bulk ≤ 10000000000000 := by omega
          have hpl := A.ptxt_le
          have hpk := k.ptxt_le
          have hip := ii.plain_le
          have htT : T.size ≤ 10000000000000 := by omega
          have htt : t.size ≤ 10000000000000 := by omega
          have htk : (⟨k.ptxt.toArray⟩ : ByteArray).size ≤ 10000000000000 := by rw [str_size (l := k.ptxt) rfl]; omega
          have hti : (⟨ii.plain.toArray⟩ : ByteArray).size ≤ 10000000000000 := by rw [str_size (l := ii.plain) rfl]; omega
          have hT : blsS.rest q w (some ⟨d, o, none⟩) (i + 1) r := .inr ⟨d, o, ys, rfl, hqb, hbl, hA, hE.tail⟩
          have HT := Lib.hid hT
          have HG := Lib.hid hi1
          have HGG := Lib.hid hg
          have hsb := hb.size
          have HM : Hid (∀ x : ByteArray, (if a = 1 ∨ a = 2 ∨ a = 4 ∨ a = 9 then ii.plain ++ [10] else if a = 6 then t.data.toList ++ [10] else []) = x.data.toList → (T ++ x ++ ⟨k.ptxt.toArray⟩).data.toList = (A.app (.cons a l t ii k .nil)).ptxt) := Lib.hid (fun x hx => by rw [Bls.ptxt_app]; simp only [Bls.ptxt, List.append_nil, hx]; rw [← HT0.out]; simp)
          have hl : (A.app (.cons a l t ii k .nil)).len = i + 1 := by rw [Bls.len_app, HI.out]; rfl
          have HL := Lib.hid hl
          have hC := fun W (hW : Below wr.heap.size wr W) => ih _ k kp kc W hks hks2 hkb (blsS.sl_on hk (Kept.below hW))
          have hCI := plainR_any _ _ ii ip ic wr (Nat.lt_succ_self _) his2 (by omega) hisl
          obtain ⟨KX, hKX⟩ : ∃ KX : ByteArray, ⟨k.ptxt.toArray⟩ = KX := ⟨_, rfl⟩
          obtain ⟨IX, hIX⟩ : ∃ IX : ByteArray, ⟨ii.plain.toArray⟩ = IX := ⟨_, rfl⟩
          simp only [hKX] at hC HM htk
          have hIX2 : IX.data.toList = ii.plain := by rw [← hIX]
          rw [hIX] at hCI hti
          have hdl := Nat.lt_of_lt_of_le hbl hsb
          have HC := Lib.hid hC
          have HCI := Lib.hid hCI
          have HX := Lib.hid hIX2
          clear hE hA hr hsz hT hg hl hts hpl hpk hip hbk hC hCI hKX hIX hIX2 hk hisl hi1
          by_cases q1 : a = 1 ∨ a = 2 ∨ a = 4 ∨ a = 9
          · have HM2 := Lib.hid (HM.out (IX ++ ⟨#[10]⟩) (by rw [if_pos q1, ← HX.out]; simp))
            have hov : ¬ (9223372036854775807 < T.size + IX.size) := by omega
            have hov1 : ¬ (9223372036854775807 < (T ++ IX).size + (⟨#[10]⟩ : ByteArray).size) := by rw [ByteArray.size_append]; show ¬ (9223372036854775807 < T.size + IX.size + 1); omega
            have hov2 : ¬ (9223372036854775807 < (T ++ IX ++ (⟨#[10]⟩ : ByteArray)).size + KX.size) := by rw [ByteArray.size_append, ByteArray.size_append]; show ¬ (9223372036854775807 < T.size + IX.size + 1 + KX.size); omega
            rcases q1 with rfl | rfl | rfl | rfl
            all_goals
              go_wp2_with fail
              refine HCI.out.mono ?_
              rintro e w1 ⟨rfl, hb1⟩
              have z4 := (hb1.cell (p := ⟨d, o + i * 5 + 4, none⟩) hdl).trans c4
              have hdl1 := Nat.lt_of_lt_of_le hdl hb1.size
              go_wp2_with fail
              refine (HC.out _ hb1).mono ?_
              rintro e w2 ⟨rfl, hb2⟩
              have hb3 := below_then hb (below_then hb1 hb2)
              go_wp2_with fail
              have HG2 := HG.out
              have HG3 := HGG.out
              simp only [Bls.len] at HG2 HG3
              go_roundg (r.len + 1)
              case measure => omega
              case rel => exact ⟨A.app (.cons _ l t ii k .nil), r, _, by rw [Bls.app_assoc]; exact HAR.out, by rw [HL.out]; omega, by omega, by rw [HL.out]; go_num, rfl, by rw [← HM2.out]; simp, hb3, by rw [HL.out]; exact HT.out⟩
          · have e1 : (a == 1) = false := by simp; omega
            have e2 : (a == 2) = false := by simp; omega
            have e4 : (a == 4) = false := by simp; omega
            have e9 : (a == 9) = false := by simp; omega
            by_cases h6 : a = 6
            · have HM2 := Lib.hid (HM.out (t ++ ⟨#[10]⟩) (by rw [if_neg q1, if_pos h6]; simp))
              have e6 : (a == 6) = true := by simpa using h6
              have hov : ¬ (9223372036854775807 < T.size + t.size) := by omega
              have hov1 : ¬ (9223372036854775807 < (T ++ t).size + (⟨#[10]⟩ : ByteArray).size) := by rw [ByteArray.size_append]; show ¬ (9223372036854775807 < T.size + t.size + 1); omega
              have hov2 : ¬ (9223372036854775807 < (T ++ t ++ (⟨#[10]⟩ : ByteArray)).size + KX.size) := by rw [ByteArray.size_append, ByteArray.size_append]; show ¬ (9223372036854775807 < T.size + t.size + 1 + KX.size); omega
              clear q1 h6
              go_wp2_with fail
              refine (HC.out _ (Below.refl _ _)).mono ?_
              rintro e w2 ⟨rfl, hb2⟩
              have hb3 := below_then hb hb2
              go_wp2_with fail
              have HG2 := HG.out
              have HG3 := HGG.out
              simp only [Bls.len] at HG2 HG3
              go_roundg (r.len + 1)
              case measure => omega
              case rel => exact ⟨A.app (.cons _ l t ii k .nil), r, _, by rw [Bls.app_assoc]; exact HAR.out, by rw [HL.out]; omega, by omega, by rw [HL.out]; go_num, rfl, by rw [← HM2.out]; simp, hb3, by rw [HL.out]; exact HT.out⟩
            · have HM2 := Lib.hid (HM.out ⟨#[]⟩ (by rw [if_neg q1, if_neg h6]))
              have e6 : (a == 6) = false := by simpa using h6
              have hov2 : ¬ (9223372036854775807 < T.size + KX.size) := by omega
              clear q1 h6
              go_wp2_with fail
              refine (HC.out _ (Below.refl _ _)).mono ?_
              rintro e w2 ⟨rfl, hb2⟩
              have hb3 := below_then hb hb2
              go_wp2_with fail
              have HG2 := HG.out
              have HG3 := HGG.out
              simp only [Bls.len] at HG2 HG3
              go_roundg (r.len + 1)
              case measure => omega
              case rel => exact ⟨A.app (.cons _ l t ii k .nil), r, _, by rw [Bls.app_assoc]; exact HAR.out, by rw [HL.out]; omega, by omega, by rw [HL.out]; go_num, rfl, by rw [← HM2.out]; simp, hb3, by rw [HL.out]; exact HT.out⟩
end Go.Proofs.YthieinfonomeeaaGreatDoor
