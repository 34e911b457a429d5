/-
  The law OutlineNotes, walked. Conditions: the library's table of powers of ten as it is laid; the blocks that came in hold at most 1048576 values and letters.
-/
import Derived.Test.YtibmemaciahofaaDoorOutSize
import Derived.Test.YtibmemaciahofaaDoorOutKnown
import Derived.Test.YtibmemaciahofaaDoorDocSize
import Derived.Test.YtibmemaciahofaaDoorOutInts
import Derived.Test.YtibmemaciahofaaDoorNoteRef
import Derived.Test.YtibmemaciahofaaDoorNoteSame
import Derived.Test.YtibmemaciahofaaDoorNoteMore
namespace Go.Proofs.YtibmemaciahofaaDoor
open Go.RowKit Doc Note
set_option linter.unusedVariables false
attribute [local go_sem ↓] Go.wp_at_zero Go.wp_at_succ

set_option maxRecDepth 20000 in
set_option maxHeartbeats 2000000 in
theorem law_notes (q : Nat → Prop) (L : Bls) (p : Option Addr) (c : Nat) (a : Option Addr) (len cap : Nat) (zs : List Int) (w : World) (hL : blsS.sl q w (.slice p L.len c) L) (hbk : L.bulk + L.size ≤ 1048576) (hz : IsInts w a len cap zs) (ht : Tab w) :
    Calls Tryd.prog 5 #[.slice p L.len c, .slice a len cap] w fun e w' => e = .returned (.bool true) ∧ Below w.heap.size w w' := by
  have HT := Lib.hid ht
  have HZ := Lib.hid hz
  have hsb := L.size_blk
  have hsz := size_any _ q L p c w (Nat.lt_succ_self _) (by omega) hL
  have hcn := L.cnt_le 0
  have HL := Lib.hid hL
  obtain ⟨cn, hcn2⟩ : ∃ cn, cn = Bls.cnt 0 L := ⟨_, rfl⟩
  rw [← hcn2] at hsz hcn
  clear ht hz hL hcn2
  go_enter Tryd.func5, Tryd.ntmps5
  go_wp2_with fail
  refine hsz.mono ?_
  rintro e w1 ⟨rfl, hb⟩
  clear hsz
  by_cases hbig : 200 < cn
  · have g1 : decide ((200 : Int) < (cn : Int)) = true := by simp; omega
    clear hbig
    go_wp2_with fail
    refine (known_any _ (HT.out.on hb)).mono ?_
    rintro e w2 ⟨rfl, hb2⟩
    go_wp2_with fail
    go_ret
    exact ⟨rfl, below_then hb hb2⟩
  · have g1 : decide ((200 : Int) < (cn : Int)) = false := by simp; omega
    clear hbig
    have HB1 := Lib.hid hb
    clear hb
    go_wp2_with fail
    refine (newT a len cap zs w1 (HZ.out.below HB1.out)).mono ?_
    rintro e w2 ⟨g, rfl, hg, hb2, tp⟩
    have hB := bls_2 g w2 tp
    clear tp
    go_wp2_with fail
    refine hB.mono ?_
    rintro e w3 ⟨p2, c2, M, rfl, hMt, hMs, ts, hM⟩
    have HB3 : Hid (Below w.heap.size w w3) := Lib.hid (below_then HB1.out (hb2.trans (ts.st.below.mono hg)))
    have hmb := M.tiny_bulk hMt
    have hmsb := M.size_blk
    have HL3 := Lib.hid (blsS.sl_on HL.out (Kept.below HB3.out))
    have HM3 := Lib.hid hM
    have H0 := Lib.hid (Below.refl w3.heap.size w3)
    clear hB ts hM hb2 HL
    have hmL := L.marks_size
    have hlL := L.marks.len_size
    have hnL : (notes L.marks).length ≤ 0 + L.marks.len := notesF_len L.marks [] 0
    have HUL : Hid (∀ j, j < (notes L.marks).length → ((notes L.marks).getD j default).uses.length ≤ 1000000 ∧ ((notes L.marks).getD j default).ins.size ≤ 1000000) := Lib.hid fun j hj => by
      have h1 := uses_le (notes L.marks) j hj
      rw [total_notes] at h1
      have h2 := ins_notes L.marks j hj
      exact ⟨by omega, by omega⟩
    go_wp2_with fail
    refine (marksB_any _ _ L p c _ (Nat.lt_succ_self _) (by omega) (blsS.sl_on HL3.out (Kept.below H0.out))).mono ?_
    rintro e w4 ⟨mpL, mcL, rfl, hb, hm⟩
    have H1 := Lib.hid (below_then H0.out hb)
    clear hb
    go_wp2_with fail
    refine (marksR_any _ _ L p c _ (Nat.lt_succ_self _) (by omega) (blsS.sl_on HL3.out (Kept.below H1.out))).mono ?_
    rintro e w5 ⟨rpL, rcL, rfl, hb, hr⟩
    have hS := same_any _ _ _ L.marks mpL mcL rpL rcL w5 (Nat.lt_succ_self _) (by omega) (insS.sl_on hm (Kept.below hb)) hr
    have H2 := Lib.hid (below_then H1.out hb)
    clear hb hm hr
    go_wp2_with fail
    refine hS.mono ?_
    rintro e w6 ⟨rfl, hb⟩
    have H3 := Lib.hid (below_then H2.out hb)
    clear hb hS
    go_wp2_with fail
    refine (notes_any _ L p c _ (by omega) (blsS.sl_on HL3.out (Kept.below H3.out)) (L.fit_bulk (by omega))).mono ?_
    rintro e w7 ⟨v1L, I1, U1, B1, rfl, hb, hp⟩
    obtain ⟨ppL, pcL, rfl⟩ := hp.len
    have HP := Lib.hid (NF2.of hp (good_notes L.marks).ne)
    have H4 := Lib.hid (below_then H3.out hb)
    clear hb hp
    go_wp2_with fail
    refine (notesR_any _ L p c _ (by omega) (blsS.sl_on HL3.out (Kept.below H4.out))).mono ?_
    rintro e w8 ⟨v2L, I2, U2, B2, rfl, hb, hq⟩
    obtain ⟨qpL, qcL, rfl⟩ := hq.len
    have hS := sameN_any _ _ (notes L.marks) ppL pcL qpL qcL w8 (by omega) HUL.out (HP.out.below hb) (NF2.of hq (good_notes L.marks).ne)
    have H5 := Lib.hid (below_then H4.out hb)
    clear hb hq HP
    go_wp2_with fail
    refine hS.mono ?_
    rintro e w9 ⟨rfl, hb⟩
    have H6 := Lib.hid (below_then H5.out hb)
    clear hb hS
    have hmM := M.marks_size
    have hlM := M.marks.len_size
    have hnM : (notes M.marks).length ≤ 0 + M.marks.len := notesF_len M.marks [] 0
    have HUM : Hid (∀ j, j < (notes M.marks).length → ((notes M.marks).getD j default).uses.length ≤ 1000000 ∧ ((notes M.marks).getD j default).ins.size ≤ 1000000) := Lib.hid fun j hj => by
      have h1 := uses_le (notes M.marks) j hj
      rw [total_notes] at h1
      have h2 := ins_notes M.marks j hj
      exact ⟨by omega, by omega⟩
    go_wp2_with fail
    refine (marksB_any _ _ M p2 c2 _ (Nat.lt_succ_self _) (by omega) (blsS.sl_on HM3.out (Kept.below H6.out))).mono ?_
    rintro e w10 ⟨mpM, mcM, rfl, hb, hm⟩
    have H7 := Lib.hid (below_then H6.out hb)
    clear hb
    go_wp2_with fail
    refine (marksR_any _ _ M p2 c2 _ (Nat.lt_succ_self _) (by omega) (blsS.sl_on HM3.out (Kept.below H7.out))).mono ?_
    rintro e w11 ⟨rpM, rcM, rfl, hb, hr⟩
    have hS := same_any _ _ _ M.marks mpM mcM rpM rcM w11 (Nat.lt_succ_self _) (by omega) (insS.sl_on hm (Kept.below hb)) hr
    have H8 := Lib.hid (below_then H7.out hb)
    clear hb hm hr
    go_wp2_with fail
    refine hS.mono ?_
    rintro e w12 ⟨rfl, hb⟩
    have H9 := Lib.hid (below_then H8.out hb)
    clear hb hS
    go_wp2_with fail
    refine (notes_any _ M p2 c2 _ (by omega) (blsS.sl_on HM3.out (Kept.below H9.out)) (M.fit_bulk (by omega))).mono ?_
    rintro e w13 ⟨v1M, I1, U1, B1, rfl, hb, hp⟩
    obtain ⟨ppM, pcM, rfl⟩ := hp.len
    have HP := Lib.hid (NF2.of hp (good_notes M.marks).ne)
    have H10 := Lib.hid (below_then H9.out hb)
    clear hb hp
    go_wp2_with fail
    refine (notesR_any _ M p2 c2 _ (by omega) (blsS.sl_on HM3.out (Kept.below H10.out))).mono ?_
    rintro e w14 ⟨v2M, I2, U2, B2, rfl, hb, hq⟩
    obtain ⟨qpM, qcM, rfl⟩ := hq.len
    have hS := sameN_any _ _ (notes M.marks) ppM pcM qpM qcM w14 (by omega) HUM.out (HP.out.below hb) (NF2.of hq (good_notes M.marks).ne)
    have H11 := Lib.hid (below_then H10.out hb)
    clear hb hq HP
    go_wp2_with fail
    refine hS.mono ?_
    rintro e w15 ⟨rfl, hb⟩
    have H12 := Lib.hid (below_then H11.out hb)
    clear hb hS
    go_wp2_with fail
    refine (known_any _ (HT.out.on (below_then HB3.out H12.out))).mono ?_
    rintro e w99 ⟨rfl, hb⟩
    go_wp2_with fail
    go_ret
    exact ⟨rfl, below_then (below_then HB3.out H12.out) hb⟩
end Go.Proofs.YtibmemaciahofaaDoor
