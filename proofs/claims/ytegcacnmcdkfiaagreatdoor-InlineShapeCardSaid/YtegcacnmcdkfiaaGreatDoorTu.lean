/-
  The program's texts without entities; walked. Conditions: those typed in each theorem.
-/
import Derived.Test.YtegcacnmcdkfiaaGreatDoorTt

namespace Go.Proofs.YtegcacnmcdkfiaaGreatDoor
open Go.RowKit Doc Tit Inl
set_option linter.unusedVariables false
attribute [local go_sem ↓] Go.wp_at_zero Go.wp_at_succ

set_option maxRecDepth 10000 in
set_option maxHeartbeats 2000000 in
theorem pdecode_any (s : ByteArray) (w : World) (hs : s.size ≤ 100000000) : Calls Tryz.prog 16 #[.string s] w fun e w' => e = .returned (.string ⟨(dec s.data.toList).toArray⟩) ∧ Below w.heap.size w w' := by
  have hz : s.data.toList.length = s.size := by simp
  have hEN : ∀ i W, i ≤ s.size → Calls Tryz.prog 44 #[.string (s.extract i s.size)] W fun e w' => e = .returned (entV (ent (s.data.toList.drop i))) ∧ Below W.heap.size W w' := fun i W hi => by
    have h := pentity_any (s.extract i s.size) W (by rw [ByteArray.size_extract]; omega)
    rwa [Lib.extract_to_end] at h
  obtain ⟨w1, hmk, hO, hbm⟩ := make_bytes w s.size (by omega)
  have HO := Lib.hid hO
  have HBM := Lib.hid hbm
  clear hO hbm
  obtain ⟨l, hl⟩ : ∃ l, l = s.data.toList := ⟨_, rfl⟩
  have hdb := drop_byte s
  rw [← hl] at hdb hz hEN ⊢
  have HEN := Lib.hid hEN
  have HDB := Lib.hid hdb
  have HZ := Lib.hid hz
  clear hdb hl hEN hz
  go_enter Tryz.func16, Tryz.ntmps16
  go_wp2_with fail
  go_loopg [3, 4, 5, 6] (s.size + 1) (fun g s3 s4 s5 s6 wr => ∃ (i : Nat) (o : List UInt8), i ≤ s.size ∧ s.size < i + g ∧ s4 = .int .i64 i ∧ BOwn w.heap.size wr s3 o ∧ o.length ≤ i ∧ dec l = o ++ dec (l.drop i) ∧ Below w.heap.size w wr)
  case atStart => exact ⟨0, [], by omega, by omega, rfl, HO.out, by simp, rfl, HBM.out⟩
  case round =>
    obtain ⟨i, o, hi, hg, rfl, hown, hoi, hq, hbw⟩ := hrel
    have HQ := Lib.hid hq
    have HOWN := Lib.hid hown
    have HBW := Lib.hid hbw
    have hbz := hbw.size
    clear hq hown hbw
    by_cases hin : i < s.size
    · have g1 : decide (i < s.size) = true := decide_eq_true hin
      have hii : (i : Int) ≤ (s.size : Int) := by omega
      have hC := HEN.out i wr hi
      have hdi := HDB.out i hin
      obtain ⟨E, hE⟩ : ∃ E, E = ent (l.drop i) := ⟨_, rfl⟩
      rw [← hE] at hC
      have HE := Lib.hid hE
      have HC := Lib.hid hC
      have HDI := Lib.hid hdi
      clear hC hE hdi
      cases E with
      | some y =>
        obtain ⟨x, n⟩ := y
        have hen := ent_len HE.out.symm
        rw [List.length_drop, HZ.out] at hen
        have hds := dec_some HE.out.symm
        rw [List.drop_drop] at hds
        have HDS := Lib.hid hds
        have g2 : decide (0 < n) = true := decide_eq_true (by omega)
        clear hds
        go_wp2_with fail
        refine HC.out.mono ?_
        rintro e w1 ⟨rfl, hb1⟩
        have hbz1 := hb1.size
        have HB1 := Lib.hid (HBW.out.trans (hb1.mono hbz))
        have HO1 := Lib.hid (HOWN.out.below hb1)
        have HOA := Lib.hid (HO1.out.below (below_new0 w1 (.cells #[.int .u8 (x.toNat : Int)] 5)))
        have HSB := Lib.hid (src_byte w1 5 x)
        clear hb1
        simp only [entV]
        go_wp2_with (at_builtin; go_must (refine append_bytes _ rfl _ _ rfl HOA.out rfl HSB.out rfl (by simp; omega) (by simp; omega) ?_); intro v' w3 hown3 hgr hat)
        have HOW3 := Lib.hid hown3
        have HB3 := Lib.hid (below_byte (HB1.out.trans ((below_new0 w1 _).mono (by omega))) HOA.out hgr (by simp; omega))
        clear hown3 hgr hat
        go_wp2_with fail
        go_roundg (s.size - i)
        case measure => omega
        case rel => exact ⟨i + n, o ++ [x], by omega, by omega, by go_num, HOW3.out, by simp; omega, by rw [HQ.out, HDS.out]; simp, HB3.out⟩
      | none =>
        have hds := HDI.out
        have hnn := HE.out
        rw [hds] at hnn
        have hdn := dec_none hnn.symm
        have HDN := Lib.hid hdn
        clear hds hnn hdn
        go_wp2_with fail
        refine HC.out.mono ?_
        rintro e w1 ⟨rfl, hb1⟩
        have hbz1 := hb1.size
        have HB1 := Lib.hid (HBW.out.trans (hb1.mono hbz))
        have HO1 := Lib.hid (HOWN.out.below hb1)
        have HOA := Lib.hid (HO1.out.below (below_new0 w1 (.cells #[.int .u8 (s[i].toNat : Int)] 5)))
        have HSB := Lib.hid (src_byte w1 5 s[i])
        clear hb1
        simp only [entV]
        go_wp2_with (at_builtin; go_must (refine append_bytes _ rfl _ _ rfl HOA.out rfl HSB.out rfl (by simp; omega) (by simp; omega) ?_); intro v' w3 hown3 hgr hat)
        have HOW3 := Lib.hid hown3
        have HB3 := Lib.hid (below_byte (HB1.out.trans ((below_new0 w1 _).mono (by omega))) HOA.out hgr (by simp; omega))
        clear hown3 hgr hat
        go_wp2_with fail
        go_roundg (s.size - i)
        case measure => omega
        case rel => exact ⟨i + 1, o ++ [s[i]], by omega, by omega, by go_num, HOW3.out, by simp; omega, by rw [HQ.out, HDI.out, HDN.out]; simp, HB3.out⟩
    · have g1 : decide (i < s.size) = false := decide_eq_false hin
      have hout : dec l = o := by rw [HQ.out, List.drop_eq_nil_of_le (by rw [HZ.out]; omega), dec_nil, List.append_nil]
      have HOUT := Lib.hid hout
      have htx := HOWN.out.text
      clear hout
      go_wp2_with fail
      go_ret
      refine ⟨?_, HBW.out⟩
      rw [HOUT.out]
      rfl
end Go.Proofs.YtegcacnmcdkfiaaGreatDoor
