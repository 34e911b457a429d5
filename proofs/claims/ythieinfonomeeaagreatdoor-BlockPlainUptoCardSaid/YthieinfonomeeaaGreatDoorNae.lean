/-
  The law BlockPlain; walked. Condition: the library's MaxLen holds a number.
-/
import Derived.Test.YthieinfonomeeaaGreatDoorNad
import Derived.Test.YthieinfonomeeaaGreatDoorAbb
import Derived.Test.YthieinfonomeeaaGreatDoorNab
import Derived.Test.YthieinfonomeeaaGreatDoorLac

namespace Go.Proofs.YthieinfonomeeaaGreatDoor
open Go.RowKit Doc Tit Inl Blk
set_option linter.unusedVariables false
attribute [local go_sem ↓] Go.wp_at_zero Go.wp_at_succ

theorem Doc.Bls.size_bulk : ∀ a : Bls, a.size ≤ a.bulk
  | .nil => Nat.le_refl _
  | .cons a l t i k r => by
    have h1 := i.size_bulk
    have h2 := Doc.Bls.size_bulk k
    have h3 := Doc.Bls.size_bulk r
    simp only [Bls.size, Bls.bulk]
    omega
set_option maxRecDepth 20000 in
set_option maxHeartbeats 4000000 in
theorem law_bplain (q : Nat → Prop) (L : Bls) (p : Option Addr) (c : Nat) (a : Option Addr) (len cap : Nat) (zs : List Int) (w : World) (hm : MX w) (hM : L.size ≤ 1000000) (hK : L.bulk ≤ 10000000000000) (hv : blsS.sl q w (.slice p L.len c) L) (hz : IsInts w a len cap zs) :
    Calls Tryz.prog 5 #[.slice p L.len c, .slice a len cap] w fun e w' => e = .returned (.bool true) ∧ Below w.heap.size w w' := by
  have HM := Lib.hid hm
  have hKN := fun (W : World) (hb : Below w.heap.size w W) => bknown_any W (HM.out.below hb)
  have HKN := Lib.hid hKN
  have hS := rsize_any _ q L p c w (Nat.lt_succ_self _) hM hv
  have hcl := Bls.pcnt_le L 0
  have hP := fun W (hb : Below w.heap.size w W) => bplain_any q L p c W hM hK (blsS.sl_on hv (Kept.below hb))
  have hR := fun W (hb : Below w.heap.size w W) => rbplain_any _ q L p c W (Nat.lt_succ_self _) hM hK (blsS.sl_on hv (Kept.below hb))
  obtain ⟨n, hn⟩ : ∃ n, n = L.len := ⟨_, rfl⟩
  obtain ⟨z, hz1⟩ : ∃ z, z = Bls.pcnt 0 L := ⟨_, rfl⟩
  obtain ⟨X, hX⟩ : ∃ X : ByteArray, ⟨L.ptxt.toArray⟩ = X := ⟨_, rfl⟩
  rw [← hn] at hS hP hR ⊢
  rw [← hz1] at hS hcl
  simp only [hX] at hP hR
  have HS := Lib.hid hS
  have HP := Lib.hid hP
  have HR := Lib.hid hR
  have HZ := Lib.hid hz
  clear hS hP hR hn hz1 hX hKN hm hv hz hK
  by_cases hb : 300 < z
  · have g1 : decide ((300 : Int) < (z : Int)) = true := decide_eq_true (by omega)
    have g1' : decide (300 < z) = true := decide_eq_true hb
    go_enter Tryz.func5, Tryz.ntmps5
    go_wp2_with fail
    refine HS.out.mono ?_
    rintro e w1 ⟨rfl, hb1⟩
    go_wp2_with fail
    refine (HKN.out _ hb1).mono ?_
    rintro e w2 ⟨rfl, hb2⟩
    go_wp2_with fail
    go_ret
    exact ⟨rfl, below_then hb1 hb2⟩
  · have g1 : decide ((300 : Int) < (z : Int)) = false := decide_eq_false (by omega)
    have g1' : decide (300 < z) = false := decide_eq_false hb
    clear hb
    go_enter Tryz.func5, Tryz.ntmps5
    go_wp2_with fail
    refine HS.out.mono ?_
    rintro e w1 ⟨rfl, hb1⟩
    have hT := newT a len cap zs w1 (HZ.out.below hb1)
    have HB1 := Lib.hid hb1
    have HT := Lib.hid hT
    clear hT hb1
    go_wp2_with fail
    refine HT.out.mono ?_
    rintro e V ⟨g, rfl, hg, hbV, tp⟩
    have hBL := bls_2 g V tp
    have HBL := Lib.hid hBL
    have hbV2 := below_then HB1.out hbV
    have HBV := Lib.hid hbV2
    have hgw : w.heap.size ≤ g := by have := HB1.out.size; omega
    clear hBL tp hbV hbV2
    go_wp2_with fail
    refine HBL.out.mono ?_
    rintro e w2 ⟨pb, cb, B, rfl, htiny, hBs, ts, hsl⟩
    have hb2 := HBV.out.trans (ts.st.below.mono hgw)
    have hbk := Bls.tiny_bulk B htiny
    have hsl2 : blsS.sl (fun _ => True) w2 (.slice pb B.len cb) B := blsS.sl_on hsl (Kept.mono fun _ _ _ => trivial)
    have hP2 := fun W (hb : Below w2.heap.size w2 W) => bplain_any _ B pb cb W (by omega) (by omega) (blsS.sl_on hsl2 (Kept.below hb))
    have hR2 := fun W (hb : Below w2.heap.size w2 W) => rbplain_any _ _ B pb cb W (Nat.lt_succ_self _) (by omega) (by omega) (blsS.sl_on hsl2 (Kept.below hb))
    obtain ⟨Y, hY⟩ : ∃ Y : ByteArray, ⟨B.ptxt.toArray⟩ = Y := ⟨_, rfl⟩
    simp only [hY] at hP2 hR2
    have HP2 := Lib.hid hP2
    have HR2 := Lib.hid hR2
    have HB2 := Lib.hid hb2
    clear hP2 hR2 hY hsl hsl2 ts htiny hbk hb2 hBs
    go_wp2_with fail
    refine (HP.out _ HB2.out).mono ?_
    rintro e w3 ⟨rfl, hb3⟩
    have hb3' := below_then HB2.out hb3
    go_wp2_with fail
    refine (HR.out _ hb3').mono ?_
    rintro e w4 ⟨rfl, hb4⟩
    have hb4' := below_then hb3 hb4
    go_wp2_with fail
    refine (HP2.out _ hb4').mono ?_
    rintro e w5 ⟨rfl, hb5⟩
    have hb5' := below_then hb4' hb5
    go_wp2_with fail
    refine (HR2.out _ hb5').mono ?_
    rintro e w6 ⟨rfl, hb6⟩
    have hb6' := below_then hb5' hb6
    have hbf := below_then HB2.out hb6'
    go_wp2_with fail
    refine (HKN.out _ hbf).mono ?_
    rintro e w7 ⟨rfl, hb7⟩
    go_wp2_with fail
    go_ret
    exact ⟨rfl, below_then hbf hb7⟩
end Go.Proofs.YthieinfonomeeaaGreatDoor
