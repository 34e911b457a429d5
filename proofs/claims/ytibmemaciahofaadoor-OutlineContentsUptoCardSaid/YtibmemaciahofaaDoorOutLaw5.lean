/-
  The law OutlineContents, walked. Conditions: the library's table of powers of ten as it is laid; the blocks that came in hold at most 1048576 values and letters.
-/
import Derived.Test.YtibmemaciahofaaDoorOutSize
import Derived.Test.YtibmemaciahofaaDoorOutKnown
import Derived.Test.YtibmemaciahofaaDoorDocSize
import Derived.Test.YtibmemaciahofaaDoorOutInts
import Derived.Test.YtibmemaciahofaaDoorContSame
import Derived.Test.YtibmemaciahofaaDoorContRef
import Derived.Test.YtibmemaciahofaaDoorOutTree
namespace Go.Proofs.YtibmemaciahofaaDoor
open Go.RowKit Doc Cont
set_option linter.unusedVariables false
attribute [local go_sem ↓] Go.wp_at_zero Go.wp_at_succ

set_option maxRecDepth 20000 in
set_option maxHeartbeats 2000000 in
theorem law_contents (q : Nat → Prop) (L : Bls) (p : Option Addr) (c : Nat) (a : Option Addr) (len cap : Nat) (zs : List Int) (w : World) (hL : blsS.sl q w (.slice p L.len c) L) (hbk : L.bulk + L.size ≤ 1048576) (hz : IsInts w a len cap zs) (ht : Tab w) :
    Calls Tryd.prog 4 #[.slice p L.len c, .slice a len cap] w fun e w' => e = .returned (.bool true) ∧ Below w.heap.size w w' := by
  have HT := Lib.hid ht
  have HZ := Lib.hid hz
  have hsb := L.size_blk
  have hsz := size_any _ q L p c w (Nat.lt_succ_self _) (by omega) hL
  have hcn := L.cnt_le 0
  have HL := Lib.hid hL
  obtain ⟨cn, hcn2⟩ : ∃ cn, cn = Bls.cnt 0 L := ⟨_, rfl⟩
  rw [← hcn2] at hsz hcn
  clear ht hz hL hcn2
  go_enter Tryd.func4, Tryd.ntmps4
  go_wp2_with fail
  refine hsz.mono ?_
  rintro e w1 ⟨rfl, hb⟩
  clear hsz
  by_cases hbig : 100 < cn
  · have g1 : decide ((100 : Int) < (cn : Int)) = true := by simp; omega
    clear hbig
    go_wp2_with fail
    refine (known_any _ (HT.out.on hb)).mono ?_
    rintro e w2 ⟨rfl, hb2⟩
    go_wp2_with fail
    go_ret
    exact ⟨rfl, below_then hb hb2⟩
  · have g1 : decide ((100 : Int) < (cn : Int)) = false := by simp; omega
    clear hbig
    have HB1 := Lib.hid hb
    clear hb
    go_wp2_with fail
    refine (newT a len cap zs w1 (HZ.out.below HB1.out)).mono ?_
    rintro e w2 ⟨g, rfl, hg, hb2, tp⟩
    have hB := bls_2 g w2 tp
    clear tp
    go_wp2_with fail
    refine hB.mono ?_
    rintro e w3 ⟨p2, c2, M, rfl, hMt, hMs, ts, hM⟩
    have HB3 : Hid (Below w.heap.size w w3) := Lib.hid (below_then HB1.out (hb2.trans (ts.st.below.mono hg)))
    have hmb := M.tiny_bulk hMt
    have hmsb := M.size_blk
    have HL3 := Lib.hid (blsS.sl_on HL.out (Kept.below HB3.out))
    have HM3 := Lib.hid hM
    have H0 := Lib.hid (Below.refl w3.heap.size w3)
    clear hB ts hM hb2 HL
    have hcL : (cont L).length ≤ 1000000 := by
      have h1 : (contF [] L).length ≤ 0 + L.len := contF_len L []
      have h2 := L.len_size
      show (contF [] L).length ≤ 1000000
      omega
    go_wp2_with fail
    refine (cont_any _ L p c _ (by omega) (by omega) (blsS.sl_on HL3.out (Kept.below H0.out)) (HT.out.on (below_then HB3.out H0.out))).mono ?_
    rintro e w4 ⟨xpL, xcL, rfl, hb, hx⟩
    have H1 := Lib.hid (below_then H0.out hb)
    obtain ⟨ex, -, ex1, ex2⟩ := Ents.of hx
    have HX := Lib.hid ex
    clear hb hx ex
    go_wp2_with fail
    refine (contR_any _ L p c _ (by omega) (by omega) (blsS.sl_on HL3.out (Kept.below H1.out))).mono ?_
    rintro e w5 ⟨ypL, ycL, rfl, hb, hy⟩
    obtain ⟨ey, -, ey1, ey2⟩ := Ents.of hy
    have hS := sameE_any (cont L) xpL xcL ypL ycL w5 hcL (HX.out.below hb) ey ex1 ex2 ey1 ey2
    have H2 := Lib.hid (below_then H1.out hb)
    clear hb hy ey HX
    go_wp2_with fail
    refine hS.mono ?_
    rintro e w6 ⟨rfl, hb⟩
    have H3 := Lib.hid (below_then H2.out hb)
    clear hb hS
    have hcM : (cont M).length ≤ 1000000 := by
      have h1 : (contF [] M).length ≤ 0 + M.len := contF_len M []
      have h2 := M.len_size
      show (contF [] M).length ≤ 1000000
      omega
    go_wp2_with fail
    refine (cont_any _ M p2 c2 _ (by omega) (by omega) (blsS.sl_on HM3.out (Kept.below H3.out)) (HT.out.on (below_then HB3.out H3.out))).mono ?_
    rintro e w7 ⟨xpM, xcM, rfl, hb, hx⟩
    have H4 := Lib.hid (below_then H3.out hb)
    obtain ⟨ex, -, ex1, ex2⟩ := Ents.of hx
    have HX := Lib.hid ex
    clear hb hx ex
    go_wp2_with fail
    refine (contR_any _ M p2 c2 _ (by omega) (by omega) (blsS.sl_on HM3.out (Kept.below H4.out))).mono ?_
    rintro e w8 ⟨ypM, ycM, rfl, hb, hy⟩
    obtain ⟨ey, -, ey1, ey2⟩ := Ents.of hy
    have hS := sameE_any (cont M) xpM xcM ypM ycM w8 hcM (HX.out.below hb) ey ex1 ex2 ey1 ey2
    have H5 := Lib.hid (below_then H4.out hb)
    clear hb hy ey HX
    go_wp2_with fail
    refine hS.mono ?_
    rintro e w9 ⟨rfl, hb⟩
    have H6 := Lib.hid (below_then H5.out hb)
    clear hb hS
    go_wp2_with fail
    refine (known_any _ (HT.out.on (below_then HB3.out H6.out))).mono ?_
    rintro e w99 ⟨rfl, hb⟩
    go_wp2_with fail
    go_ret
    exact ⟨rfl, below_then (below_then HB3.out H6.out) hb⟩
end Go.Proofs.YtibmemaciahofaaDoor
