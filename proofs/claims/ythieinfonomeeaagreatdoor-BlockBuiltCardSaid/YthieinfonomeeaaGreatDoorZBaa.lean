/-
  The claim's own texts, packed. Conditions: those typed in each theorem.
-/
import Derived.Test.YthieinfonomeeaaGreatDoorZRah
import Derived.Test.YthieinfonomeeaaGreatDoorZLac
namespace Go.Proofs.YthieinfonomeeaaGreatDoor
open Go.RowKit Doc Tit Inl Blk
set_option linter.unusedVariables false
attribute [local go_sem ↓] Go.wp_at_zero Go.wp_at_succ
def kindsB : List ByteArray := [⟨#[]⟩, ⟨#[97]⟩, ⟨#[42, 32, 97]⟩, ⟨#[42, 42, 32, 98]⟩, ⟨#[42, 35, 32, 99]⟩, ⟨#[35, 32, 100]⟩, ⟨#[35, 42, 32, 101]⟩, ⟨#[42, 42, 42, 32, 102]⟩, ⟨#[123, 124]⟩, ⟨#[124, 125]⟩, ⟨#[124, 45]⟩, ⟨#[124, 32, 120, 32, 124, 124, 32, 121]⟩, ⟨#[33, 32, 122, 32, 33, 33, 32, 119]⟩, ⟨#[32, 99, 111, 100, 101]⟩, ⟨#[32, 32]⟩, ⟨#[45, 45, 45, 45]⟩, ⟨#[45, 45, 45, 45, 32, 9]⟩, ⟨#[45, 45, 45]⟩, ⟨#[61, 61, 32, 104, 32, 61, 61]⟩, ⟨#[61, 61, 61, 32, 105, 32, 61, 61, 61]⟩, ⟨#[39, 39, 39, 98]⟩, ⟨#[60, 114, 101, 102, 62, 110, 60, 47, 114, 101, 102, 62]⟩, ⟨#[91, 91, 65, 93, 93]⟩, ⟨#[42]⟩, ⟨#[32]⟩]
theorem kinds_small {t : ByteArray} (h : t ∈ kindsB) : t.size ≤ 12 := by
 simp only [kindsB, List.mem_cons, List.not_mem_nil, or_false] at h
 rcases h with rfl | rfl | rfl | rfl | rfl | rfl | rfl | rfl | rfl | rfl | rfl | rfl | rfl | rfl | rfl | rfl | rfl | rfl | rfl | rfl | rfl | rfl | rfl | rfl | rfl
 all_goals decide
set_option maxRecDepth 20000 in
set_option maxHeartbeats 4000000 in
theorem law_bbuilt (a : Option Addr) (len cap : Nat) (zs : List Int) (w : World) (hz : IsInts w a len cap zs) (hm : MX w) : Calls Tryz.prog 4 #[.slice a len cap] w fun e w' => e = .returned (.bool true) ∧ Below w.heap.size w w' := by
 have HM := Lib.hid hm
 have hKN := fun (W : World) (hb : Below w.heap.size w W) => bknown_any W (HM.out.below hb)
 have HKN := Lib.hid hKN
 have hT := newT a len cap zs w hz
 clear hKN hm hz
 go_enter Tryz.func4, Tryz.ntmps4
 go_wp2_with fail
 refine hT.mono ?_
 rintro e V ⟨g, rfl, hg, hb1, tp⟩
 have hts := TpS.refl tp
 have HB1 := Lib.hid hb1
 clear hT tp hb1
 go_wp2_with fail
 go_loopg [4, 5] 12 (fun g' s4 s5 wr => ∃ (T : ByteArray) (i : Nat), s4 = .string T ∧ s5 = .int .i64 i ∧ T.size ≤ 13 * i ∧ i < 12 ∧ 12 ≤ i + g' ∧ TpS g V wr)
 case atStart => exact ⟨⟨#[]⟩, 0, rfl, rfl, Nat.le_refl _, by decide, by decide, hts⟩
 case round =>
  obtain ⟨T, i, rfl, rfl, hTz, hi, hig, ts⟩ := hrel
  clear hts
  cases gk with
  | zero => omega
  | succ gk =>
    have hN := tNext g 12 V wr (by decide) (by decide) ts
    clear ts
    go_wp2_with fail
    refine hN.mono ?_
    rintro e w2 ⟨r, rfl, hr, ts, st⟩
    clear st hN
    by_cases hir : i < r
    ·have g1 : decide ((i : Int) < (r : Int)) = true := decide_eq_true (by omega)
     have g1' : decide (i < r) = true := decide_eq_true hir
     have hO := tOfMem g kindsB V w2 9 _ rfl (by decide) (by decide) ts
     clear ts
     go_wp2_with fail
     refine hO.mono ?_
     rintro e w3 ⟨t, rfl, ht, ts, st⟩
     have ht3 := kinds_small ht
     clear hO st ht
     have hov : ¬ (9223372036854775807 < T.size + t.size) := by omega
     have hov2 : ¬ (9223372036854775807 < (T ++ t).size + (⟨#[10]⟩ : ByteArray).size) := by rw [ByteArray.size_append]; show ¬ (9223372036854775807 < T.size + t.size + 1); omega
     go_wp2_with fail
     go_roundg gk
     case measure => omega
     case rel => exact ⟨_, i + 1, rfl, by go_num, by rw [ByteArray.size_append, ByteArray.size_append]; show T.size + t.size + 1 ≤ _; omega, by omega, by omega, ts⟩
    ·have g1 : decide ((i : Int) < (r : Int)) = false := decide_eq_false (by omega)
     have g1' : decide (i < r) = false := decide_eq_false hir
     have hb2 := HB1.out.trans (ts.st.below.mono hg)
     have hm2 := HM.out.below hb2
     have hP := pbparse_any T w2 (by omega) hm2
     have hR := fun W => rbparse_any T W (by omega)
     have hz := blocks_size T.data.toList
     have hl : T.data.toList.length = T.size := by simp
     obtain ⟨B, hB⟩ : ∃ B, blocks T.data.toList = B := ⟨_, rfl⟩
     simp only [hB] at hP hR hz
     have hBz : B.size ≤ 1000000 := by omega
     have HP := Lib.hid hP
     have HR := Lib.hid hR
     have HB2 := Lib.hid hb2
     clear hP hR hz hl hB hb2 hm2 ts hir
     go_wp2_with fail
     refine HP.out.mono ?_
     rintro e w3 ⟨p1, c1, rfl, hs1, hb3⟩
     have hb3' := below_then HB2.out hb3
     have HS1 := Lib.hid hs1
     clear hs1 hb3
     go_wp2_with fail
     refine (HR.out _).mono ?_
     rintro e w4 ⟨p2, c2, rfl, hs2, hb4⟩
     have hs3 := blsS.sl_on HS1.out (Kept.below hb4)
     have hSM := bsame_any (B.size + 1) _ _ B p1 c1 p2 c2 w4 (Nat.lt_succ_self _) hBz hs3 hs2
     have HSM := Lib.hid hSM
     have hb4' := below_then hb3' hb4
     clear hs2 hs3 hSM hb4 hb3'
     go_wp2_with fail
     refine HSM.out.mono ?_
     rintro e w5 ⟨rfl, hb5⟩
     have hb5' := below_then hb4' hb5
     go_wp2_with fail
     refine (HKN.out _ hb5').mono ?_
     rintro e w6 ⟨rfl, hb6⟩
     go_wp2_with fail
     go_ret
     exact ⟨rfl, below_then hb5' hb6⟩
end Go.Proofs.YthieinfonomeeaaGreatDoor
