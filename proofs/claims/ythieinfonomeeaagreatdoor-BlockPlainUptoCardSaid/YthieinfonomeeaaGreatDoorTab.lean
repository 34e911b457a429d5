/-
  The text of elements: the reference's function. Conditions: those typed in each theorem.
-/
import Derived.Test.YthieinfonomeeaaGreatDoorAak

namespace Go.Proofs.YthieinfonomeeaaGreatDoor
open Go.RowKit Doc
set_option linter.unusedVariables false
theorem str_size {T : ByteArray} {l : List UInt8} (h : T.data.toList = l) : T.size = l.length := by rw [← h]; simp
set_option maxRecDepth 10000 in
set_option maxHeartbeats 2000000 in
theorem plainR_any : ∀ (N : Nat) (q : Nat → Prop) (L : Ins) (p : Option Addr) (c : Nat) (w : World), L.size < N → L.size ≤ 1000000 → L.bulk ≤ 100000000000000 → insS.sl q w (.slice p L.len c) L →
    Calls Tryz.prog 28 #[.slice p L.len c] w fun e w' => e = .returned (.string ⟨L.plain.toArray⟩) ∧ Below w.heap.size w w' := by
  intro N
  induction N with
  | zero => intro q L p c w hN; exact absurd hN (Nat.not_lt_zero _)
  | succ N ih =>
    intro q L p c w hN hM hK hv
    obtain ⟨hF, -, hnc, hc⟩ := Shp.rest_start hv
    have hlen := L.len_size
    obtain ⟨n, hn⟩ : ∃ n, n = L.len := ⟨_, rfl⟩
    rw [← hn] at hlen hnc ⊢
    have HN := Lib.hid hn
    clear hn hv
    go_enter Tryz.func28, Tryz.ntmps28
    go_wp2_with fail
    go_loopg [3, 4] (n + 1) (fun g s3 s4 wr => ∃ (A R : Ins) (T : ByteArray), A.app R = L ∧ A.len + R.len = n ∧ R.len < g ∧ s4 = .int .i64 A.len ∧ s3 = .string T ∧ T.data.toList = A.plain ∧ Below w.heap.size w wr ∧ insS.rest q w p A.len R)
    case atStart => exact ⟨.nil, L, ⟨#[]⟩, rfl, by simp [Ins.len]; exact HN.out.symm, by rw [← HN.out]; omega, rfl, rfl, rfl, Below.refl _ _, hF⟩
    case round =>
      obtain ⟨A, R, T, hAR, hi1, hg, rfl, rfl, hT0, hb, hR⟩ := hrel
      have HAR := Lib.hid hAR
      have hts := str_size hT0
      have HT0 := Lib.hid hT0
      generalize hi : A.len = i at *
      have HI := Lib.hid hi
      clear hAR hi hT0
      cases R with
      | nil =>
        have g1 : decide (i < n) = false := by simp [Ins.len] at hi1; simp; omega
        clear hi1 hR hts
        go_wp2_with fail
        go_ret
        have e1 : A = L := by have := HAR.out; simpa using this
        subst e1
        exact ⟨congrArg (fun x => Ending.returned (.string x)) (ByteArray.ext (Array.toList_inj.1 HT0.out)), hb⟩
      | cons a t s n' h k r =>
        rcases hR with hR | ⟨d, o, ys, rfl, hqb, hbl, hA, hE⟩
        · cases hR
        · obtain ⟨kp, kc, c0, c1, c2, c3, c4, c5, hk, hr⟩ := (IEnc.on (Kept.below hb) hE).head (hA.below hbl hb)
          have g1 : decide (i < n) = true := by simp [Ins.len] at hi1; simp; omega
          have hin : i < n := by simp [Ins.len] at hi1; omega
          have hsz : L.size = A.size + (k.size + r.size + 1) := by rw [← HAR.out, Ins.size_app]; simp only [Ins.size]
          have hbk : L.bulk = A.bulk + (t.size + 1 + k.bulk + r.bulk) := by rw [← HAR.out, Ins.bulk_app]; simp only [Ins.bulk]
          have hks : k.size < N := by omega
          have hks2 : k.size ≤ 1000000 := by omega
          have hkb : k.bulk ≤ 100000000000000 := by omega
          have hpl := A.plain_le
          have hpk := k.plain_le
          have htT : T.size ≤ 100000000000000 := by omega
          have htt : t.size ≤ 100000000000000 := by omega
          have htk : (⟨k.plain.toArray⟩ : ByteArray).size ≤ 100000000000000 := by rw [str_size (l := k.plain) rfl]; omega
          have hT : insS.rest q w (some ⟨d, o, none⟩) (i + 1) r := .inr ⟨d, o, ys, rfl, hqb, hbl, hA, hE.tail⟩
          have HT := Lib.hid hT
          have HG := Lib.hid hi1
          have HGG := Lib.hid hg
          have hsb := hb.size
          have HM : Hid (∀ x : ByteArray, (if a = 1 then t.data.toList else if a = 2 ∨ a = 3 ∨ a = 4 then k.plain else if a = 6 then [32] else []) = x.data.toList → (T ++ x).data.toList = (A.app (.cons a t s n' h k .nil)).plain) := Lib.hid (fun x hx => by rw [Ins.plain_app]; simp only [Ins.plain, List.append_nil, hx]; rw [← HT0.out]; simp)
          have HM0 : Hid ((if a = 1 then t.data.toList else if a = 2 ∨ a = 3 ∨ a = 4 then k.plain else if a = 6 then [32] else []) = [] → T.data.toList = (A.app (.cons a t s n' h k .nil)).plain) := Lib.hid (fun hx => by rw [Ins.plain_app]; simp only [Ins.plain, List.append_nil, hx]; exact HT0.out)
          have hl : (A.app (.cons a t s n' h k .nil)).len = i + 1 := by rw [Ins.len_app, HI.out]; rfl
          have HL := Lib.hid hl
          clear hE hA hr hi1 hsz hT hg hl hts hpl hpk hbk
          by_cases q1 : a = 1
          · have e1 : (a == 1) = true := by simpa using q1
            have HM2 := Lib.hid (HM.out t (by rw [if_pos q1]))
            clear q1 hk
            go_wp2_with fail
            have HG2 := HG.out
            have HG3 := HGG.out
            simp only [Ins.len] at HG2 HG3
            go_roundg (r.len + 1)
            case measure => omega
            case rel => exact ⟨A.app (.cons a t s n' h k .nil), r, _, by rw [Ins.app_assoc]; exact HAR.out, by rw [HL.out]; omega, by omega, by rw [HL.out]; go_num, rfl, HM2.out, hb, by rw [HL.out]; exact HT.out⟩
          · have e1 : (a == 1) = false := by simpa using q1
            by_cases h2 : a = 2 ∨ a = 3 ∨ a = 4
            · have HM2 := Lib.hid (HM.out ⟨k.plain.toArray⟩ (by rw [if_neg q1, if_pos h2]))
              have hx := three_kinds h2
              have hC := ih _ k kp kc _ hks hks2 hkb hk
              have HC := Lib.hid hC
              clear q1 h2 hC hk
              generalize (⟨k.plain.toArray⟩ : ByteArray) = K at *
              rcases hx with e2 | ⟨e2, e3⟩ | ⟨e2, e3, e4⟩
              all_goals
                go_wp2_with fail
                refine HC.out.mono ?_
                rintro e w1 ⟨rfl, hb1⟩
                go_wp2_with fail
                have HG2 := HG.out
                have HG3 := HGG.out
                simp only [Ins.len] at HG2 HG3
                go_roundg (r.len + 1)
                case measure => omega
                case rel => exact ⟨A.app (.cons a t s n' h k .nil), r, _, by rw [Ins.app_assoc]; exact HAR.out, by rw [HL.out]; omega, by omega, by rw [HL.out]; go_num, rfl, HM2.out, hb.trans (hb1.mono hsb), by rw [HL.out]; exact HT.out⟩
            · have e2 : (a == 2) = false := by simp; omega
              have e3 : (a == 3) = false := by simp; omega
              have e4 : (a == 4) = false := by simp; omega
              by_cases h6 : a = 6
              · have HM2 := Lib.hid (HM.out ⟨#[32]⟩ (by rw [if_neg q1, if_neg h2, if_pos h6]))
                have e6 : (a == 6) = true := by simpa using h6
                clear q1 h2 h6 hk
                go_wp2_with fail
                have HG2 := HG.out
                have HG3 := HGG.out
                simp only [Ins.len] at HG2 HG3
                go_roundg (r.len + 1)
                case measure => omega
                case rel => exact ⟨A.app (.cons a t s n' h k .nil), r, _, by rw [Ins.app_assoc]; exact HAR.out, by rw [HL.out]; omega, by omega, by rw [HL.out]; go_num, rfl, HM2.out, hb, by rw [HL.out]; exact HT.out⟩
              · have HM2 := Lib.hid (HM0.out (by rw [if_neg q1, if_neg h2, if_neg h6]))
                have e6 : (a == 6) = false := by simpa using h6
                clear q1 h2 h6 hk
                go_wp2_with fail
                have HG2 := HG.out
                have HG3 := HGG.out
                simp only [Ins.len] at HG2 HG3
                go_roundg (r.len + 1)
                case measure => omega
                case rel => exact ⟨A.app (.cons a t s n' h k .nil), r, _, by rw [Ins.app_assoc]; exact HAR.out, by rw [HL.out]; omega, by omega, by rw [HL.out]; go_num, rfl, HM2.out, hb, by rw [HL.out]; exact HT.out⟩
end Go.Proofs.YthieinfonomeeaaGreatDoor
