/-
  The law about lists. Condition: the library's MaxLen holds a number.
-/
import Derived.Test.YthieinfonomeeaaGreatDoorLae
import Derived.Test.YthieinfonomeeaaGreatDoorLac

namespace Go.Proofs.YthieinfonomeeaaGreatDoor
open Go.RowKit Doc Tit Inl Blk
set_option linter.unusedVariables false
attribute [local go_sem ↓] Go.wp_at_zero Go.wp_at_succ

def sevenB : List ByteArray := [⟨#[42]⟩, ⟨#[35]⟩, ⟨#[42, 42]⟩, ⟨#[42, 35]⟩, ⟨#[35, 35]⟩, ⟨#[35, 42]⟩, ⟨#[42, 42, 42]⟩]
theorem seven_mem {t : ByteArray} (h : t ∈ sevenB) : t.data.toList ∈ sevenL ∧ t.size ≤ 3 := by
  simp only [sevenB, List.mem_cons, List.not_mem_nil, or_false] at h
  rcases h with rfl | rfl | rfl | rfl | rfl | rfl | rfl
  all_goals exact ⟨by decide, by decide⟩
set_option maxRecDepth 20000 in
set_option maxHeartbeats 4000000 in
theorem law_lists (a : Option Addr) (len cap : Nat) (zs : List Int) (w : World) (hz : IsInts w a len cap zs) (hm : MX w) : Calls Tryz.prog 8 #[.slice a len cap] w fun e w' => e = .returned (.bool true) ∧ Below w.heap.size w w' := by
  have HM := Lib.hid hm
  have hKN := fun (W : World) (hb : Below w.heap.size w W) => bknown_any W (HM.out.below hb)
  have HKN := Lib.hid hKN
  have hT := newT a len cap zs w hz
  clear hKN hm hz
  go_enter Tryz.func8, Tryz.ntmps8
  go_wp2_with fail
  refine hT.mono ?_
  rintro e V ⟨g, rfl, hg, hb1, tp⟩
  have hts := TpS.refl tp
  have HB1 := Lib.hid hb1
  clear hT tp hb1
  go_wp2_with fail
  go_loopg [4, 5, 6] 10 (fun g' s4 s5 s6 wr => ∃ (T : ByteArray) (i : Nat) (L : List Line), s4 = .string T ∧ s5 = .int .i64 i ∧ s6 = .int .i64 i ∧ T.data.toList = txtX L ∧ L.length = i ∧ T.size ≤ 6 * i ∧ i < 10 ∧ 10 ≤ i + g' ∧ (∀ p ∈ L, p ∈ sevenL) ∧ TpS g V wr)
  case atStart => exact ⟨⟨#[]⟩, 0, [], rfl, rfl, rfl, rfl, rfl, Nat.le_refl _, by decide, by decide, (fun p hp => by cases hp), hts⟩
  case round =>
    obtain ⟨T, i, L, rfl, rfl, rfl, hTd, hLl, hTz, hi, hig, hmem, ts⟩ := hrel
    have HTD := Lib.hid hTd
    have HLL := Lib.hid hLl
    have HMEM := Lib.hid hmem
    clear hTd hLl hmem hts
    cases gk with
    | zero => omega
    | succ gk =>
      have hN := tNext g 10 V wr (by decide) (by decide) ts
      clear ts
      go_wp2_with fail
      refine hN.mono ?_
      rintro e w2 ⟨r, rfl, hr, ts, st⟩
      clear st hN
      by_cases hir : i < r
      · have g1 : decide ((i : Int) < (r : Int)) = true := decide_eq_true (by omega)
        have g1' : decide (i < r) = true := decide_eq_true hir
        have hO := tOfMem g sevenB V w2 9 _ rfl (by decide) (by decide) ts
        clear ts
        go_wp2_with fail
        refine hO.mono ?_
        rintro e w3 ⟨t, rfl, ht, ts, st⟩
        have hts := seven_mem ht
        have ht3 := hts.2
        have hTn : (T ++ t ++ (⟨#[32, 120, 10]⟩ : ByteArray)).data.toList = txtX (L ++ [t.data.toList]) := by
          rw [app_data, app_data, HTD.out, txtX_snoc]
          simp [lnX]
        have hLn : (L ++ [t.data.toList]).length = i + 1 := by rw [List.length_append, HLL.out]; rfl
        have hMn : ∀ p ∈ L ++ [t.data.toList], p ∈ sevenL := fun p hp => by
          rcases List.mem_append.1 hp with hp | hp
          · exact HMEM.out p hp
          · have : p = t.data.toList := by simpa using hp
            subst this; exact hts.1
        have HTN := Lib.hid hTn
        have HLN := Lib.hid hLn
        have HMN := Lib.hid hMn
        clear hO st ht hts hTn hLn hMn
        have hov : ¬ (9223372036854775807 < T.size + t.size) := by omega
        have hov2 : ¬ (9223372036854775807 < (T ++ t).size + (⟨#[32, 120, 10]⟩ : ByteArray).size) := by rw [ByteArray.size_append]; show ¬ (9223372036854775807 < T.size + t.size + 3); omega
        go_wp2_with fail
        go_roundg gk
        case measure => omega
        case rel => exact ⟨_, i + 1, L ++ [t.data.toList], rfl, by go_num, by go_num, HTN.out, HLN.out, by rw [ByteArray.size_append, ByteArray.size_append]; show T.size + t.size + 3 ≤ _; omega, by omega, by omega, HMN.out, ts⟩
      · have g1 : decide ((i : Int) < (r : Int)) = false := decide_eq_false (by omega)
        have g1' : decide (i < r) = false := decide_eq_false hir
        have hb2 := HB1.out.trans (ts.st.below.mono hg)
        have hm2 := HM.out.below hb2
        have hP := pbparse_any T w2 (by omega) hm2
        rw [HTD.out] at hP
        obtain ⟨c1, c2, c3, c4⟩ := lists_text L HMEM.out
        rw [HLL.out] at c1 c2 c3 c4
        obtain ⟨B, hB⟩ : ∃ B, blocks (txtX L) = B := ⟨_, rfl⟩
        rw [hB] at hP c1 c2 c3 c4
        have hIT := fun (p : Option Addr) (c : Nat) (W : World) (hv : blsS.sl (fun _ => True) W (.slice p B.len c) B) => items_any _ (fun _ => True) B p c W (Nat.lt_succ_self _) (by omega) hv
        have hPL := fun (p : Option Addr) (c : Nat) (W : World) (hv : blsS.sl (fun _ => True) W (.slice p B.len c) B) => bplain_any (fun _ => True) B p c W (by omega) (by omega) hv
        obtain ⟨X, hX⟩ : ∃ X : ByteArray, ⟨B.ptxt.toArray⟩ = X := ⟨_, rfl⟩
        rw [hX] at hPL
        rw [c1] at hIT
        have hCN := fun W => Tryz.strings_Count_one X 120 W
        have hcx : (Lib.countByte X.data.toList 120 : Int) = (i : Int) := by
          rw [← hX]
          show ((B.ptxt.count 120 : Nat) : Int) = _
          rw [c2]
        rw [hcx] at hCN
        have HP := Lib.hid hP
        have HIT := Lib.hid hIT
        have HPL := Lib.hid hPL
        have HCN := Lib.hid hCN
        have HB2 := Lib.hid hb2
        clear hP hIT hPL hCN hb2 hm2 hB hX hcx c1 c2 c3 c4 HTD HLL HMEM ts hir
        go_wp2_with fail
        refine HP.out.mono ?_
        rintro e w3 ⟨p, c, rfl, hsl, hb3⟩
        have hsl3 : blsS.sl (fun _ => True) w3 (.slice p B.len c) B := blsS.sl_on hsl (Kept.mono fun _ _ _ => trivial)
        have hb3' := below_then HB2.out hb3
        have HS3 := Lib.hid hsl3
        clear hsl hsl3 hb3
        go_wp2_with fail
        refine (HIT.out p c w3 HS3.out).mono ?_
        rintro e w4 ⟨rfl, hb4⟩
        have hb4' := below_then hb3' hb4
        have HS4 := Lib.hid (blsS.sl_on HS3.out (Kept.below hb4))
        clear hb4 HS3 hb3'
        go_wp2_with fail
        refine (HPL.out p c w4 HS4.out).mono ?_
        rintro e w5 ⟨rfl, hb5⟩
        have hb5' := below_then hb4' hb5
        clear hb5 HS4 hb4'
        go_wp2_with fail
        refine (HCN.out _).mono ?_
        rintro e w6 ⟨rfl, rfl⟩
        go_wp2_with fail
        refine (HKN.out _ hb5').mono ?_
        rintro e w7 ⟨rfl, hb7⟩
        go_wp2_with fail
        go_ret
        exact ⟨rfl, below_then hb5' hb7⟩
end Go.Proofs.YthieinfonomeeaaGreatDoor
