/-
  The claim's own texts, packed. Conditions: those typed in each theorem.
-/
import Derived.Test.YthieinfonomeeaaGreatDoorZAba
import Derived.Test.YthieinfonomeeaaGreatDoorZAak
import Derived.Test.YthieinfonomeeaaGreatDoorZAag
import Derived.Deep.RegionHeld3
import Derived.Test.YthieinfonomeeaaGreatDoorZAab
namespace Go.Proofs.YthieinfonomeeaaGreatDoor
open Go.RowKit Doc Tit Inl Blk
set_option linter.unusedVariables false
attribute [local go_sem ↓] Go.wp_at_zero Go.wp_at_succ
abbrev AnyB : Nat → Prop := fun _ => True
def oneT (s : ByteArray) : Ins := .cons 1 s 0 ⟨#[]⟩ ⟨#[]⟩ .nil .nil
def knB : Bls := .cons 3 0 ⟨#[]⟩ .nil (.cons 4 0 ⟨#[]⟩ (oneT ⟨#[97]⟩) (.cons 3 0 ⟨#[]⟩ .nil (.cons 4 0 ⟨#[]⟩ (oneT ⟨#[98]⟩) .nil .nil) .nil) (.cons 4 0 ⟨#[]⟩ (oneT ⟨#[99]⟩) .nil .nil)) (.cons 3 1 ⟨#[]⟩ .nil (.cons 4 0 ⟨#[]⟩ (oneT ⟨#[100]⟩) .nil .nil) .nil)
theorem knB_blocks : blocks [42, 32, 97, 10, 42, 42, 32, 98, 10, 42, 32, 99, 10, 35, 32, 100] = knB := by kernel_rfl
theorem knB_text : knB.ptxt = [97, 10, 98, 10, 99, 10, 100, 10] := by kernel_rfl
theorem bls_head {q : Nat → Prop} {w : World} {p : Option Addr} {n c : Nat} {a l : Int} {t : ByteArray} {i : Ins} {k r : Bls} (h : blsS.sl q w (.slice p n c) (.cons a l t i k r)) :
  ∃ b o ip ic kp kc, p = some ⟨b, o, none⟩ ∧ n = r.len + 1 ∧ n ≤ c ∧ c ≤ 9223372036854775807 ∧ b < w.heap.size ∧ w.cell? ⟨b, o, none⟩ = some (.int .i64 a) ∧ w.cell? ⟨b, o + 1, none⟩ = some (.int .i64 l) ∧ w.cell? ⟨b, o + 2, none⟩ = some (.string t) ∧ w.cell? ⟨b, o + 3, none⟩ = some (.slice ip i.len ic) ∧ w.cell? ⟨b, o + 4, none⟩ = some (.slice kp k.len kc) ∧
   insS.sl q w (.slice ip i.len ic) i ∧ blsS.sl q w (.slice kp k.len kc) k ∧ blsS.sl q w (.slice (some ⟨b, o + 5, none⟩) r.len r.len) r := by
 obtain ⟨hF, hn, hnc, hc⟩ := Shp.rest_start h
 have h1 := h
 obtain ⟨_, _, h2, _⟩ := h1
 rcases hF with hF | ⟨b, o, ys, rfl, hqb, hbl, hA, hE⟩
 ·cases hF
 ·have hn2 : n = r.len + 1 := hn
  obtain ⟨ip, ic, kp, kc, c0, c1, c2, c3, c4, hi, hk, hr⟩ := hE.head hA
  rw [Nat.zero_mul, Nat.add_zero] at c0 c1 c2 c3 c4
  refine ⟨b, o, ip, ic, kp, kc, rfl, hn2, hnc, hc, hbl, c0, c1, c2, c3, c4, hi, hk, ?_⟩
  by_cases hr0 : r.len = 0
  ·exact ⟨_, _, rfl, Nat.le_refl _, (by unfold maxLen; omega), (fun h => by cases h), .inl hr0⟩
  ·refine ⟨_, _, rfl, Nat.le_refl _, (by unfold maxLen; omega), (fun h => by cases h), .inr ⟨b, o + 5, ys.drop ((0 + 1) * 5), rfl, hqb, hbl, fun j u hu => ?_, hr⟩⟩
   rw [List.getElem?_drop] at hu
   have := hA _ u hu
   rw [show o + 5 + j = o + ((0 + 1) * 5 + j) by omega]
   exact this
theorem one_ins {w : World} {g : Nat} {t : ByteArray} (K : Known w g 56 #[.int .i64 1, .string t, .int .i64 0, .string ⟨#[]⟩, .string ⟨#[]⟩, .slice none 0 0]) :
  insS.sl AnyB w (.slice (some ⟨g, 0, none⟩) 1 1) (oneT t) := by
 refine ⟨_, 1, rfl, Nat.le_refl _, by decide, (fun h => by cases h), .inr ⟨g, 0, _, rfl, trivial, K.lt, fun i u hu => ?_, .slice none 0 0, [], rfl, Sl.empty, rfl⟩⟩
 rw [Nat.zero_add, K.cell i]
 simpa using hu
set_option maxRecDepth 20000 in
set_option maxHeartbeats 4000000 in
theorem bknown_any (w : World) (hm : MX w) : Calls Tryz.prog 12 #[] w fun e w' => e = .returned (.bool true) ∧ Below w.heap.size w w' := by
 have hPA := pbparse_any ⟨#[42, 32, 97, 10, 42, 42, 32, 98, 10, 42, 32, 99, 10, 35, 32, 100]⟩ w (by decide) hm
 have e0 : (⟨#[42, 32, 97, 10, 42, 42, 32, 98, 10, 42, 32, 99, 10, 35, 32, 100]⟩ : ByteArray).data.toList = [42, 32, 97, 10, 42, 42, 32, 98, 10, 42, 32, 99, 10, 35, 32, 100] := rfl
 rw [e0, knB_blocks] at hPA
 have hlen : knB.len = 2 := rfl
 rw [hlen] at hPA
 have HPA := Lib.hid hPA
 clear hPA e0 hlen hm
 go_enter Tryz.func12, Tryz.ntmps12
 go_wp2_with fail
 refine HPA.out.mono ?_
 rintro e w1 ⟨p, c, rfl, hsl, hb1⟩
 obtain ⟨W, hW⟩ : ∃ W, W = w1.alloc (.cells #[.int .i64 1, .string ⟨#[97]⟩, .int .i64 0, .string ⟨#[]⟩, .string ⟨#[]⟩, .slice none 0 0] 56) := ⟨_, rfl⟩
 have hbW : Below w1.heap.size w1 W := by rw [hW]; exact below_new0 _ _
 have hKW : Known W w1.heap.size 56 #[.int .i64 1, .string ⟨#[97]⟩, .int .i64 0, .string ⟨#[]⟩, .string ⟨#[]⟩, .slice none 0 0] := by rw [hW]; exact Known.made _ _ _
 have hone := one_ins hKW
 have hslW : blsS.sl AnyB W (.slice p 2 c) knB := blsS.sl_on (blsS.sl_on hsl (Kept.below hbW)) (Kept.mono fun _ _ _ => trivial)
 have hPL := bplain_any AnyB knB p c
 have hsl1 : blsS.sl AnyB w1 (.slice p 2 c) knB := blsS.sl_on hsl (Kept.mono fun _ _ _ => trivial)
 obtain ⟨b, o, ip, ic, kp, kc, rfl, -, hnc, hcm, hbl, c0, c1, c2, c3, c4, -, hk, hr⟩ := bls_head hsl1
 obtain ⟨b2, o2, ip2, ic2, kp2, kc2, hp2, -, hnc2, hcm2, hbl2, d0, d1, d2, d3, d4, -, -, -⟩ := bls_head hr
 obtain ⟨kb, ko, ip3, ic3, kp3, kc3, rfl, -, hnc3, hcm3, hbl3, k0, k1, k2, k3, k4, hi3, hk3, -⟩ := bls_head hk
 injection hp2 with hp2
 injection hp2 with hp2 hp3
 subst hp2 hp3
 have hSA := same_any 10 AnyB AnyB (oneT ⟨#[97]⟩) ip3 ic3 (some ⟨w1.heap.size, 0, none⟩) 1 W (by decide) (by decide) (insS.sl_on hi3 (Kept.below hbW)) hone
 have HPL : Hid (∀ W', Below W.heap.size W W' → Calls Tryz.prog 21 #[.slice (some ⟨b, o, none⟩) 2 c] W' fun e w' => e = .returned (.string ⟨#[97, 10, 98, 10, 99, 10, 100, 10]⟩) ∧ Below W'.heap.size W' w') := Lib.hid (fun W' hb => by
  have h := bplain_any AnyB knB (some ⟨b, o, none⟩) c W' (by decide) (by decide) (blsS.sl_on hslW (Kept.below hb))
  rw [knB_text] at h
  exact h)
 have HSA := Lib.hid hSA
 have HWW := Lib.hid hW
 have HB1 := Lib.hid (below_then hb1 hbW)
 have HBW := Lib.hid hbW
 clear hSA hone hslW hsl1 hPL hk hr hi3 hk3 hW hbW hsl hKW hb1
 simp only [Bls.len, Ins.len, oneT, Nat.zero_add] at hnc2 hnc3 c3 c4 d3 d4 k3 k4
 go_wp2_with fail
 rw [← HWW.out]
 refine HSA.out.mono ?_
 rintro e w6 ⟨rfl, hb6⟩
 have hb16 := below_then HBW.out hb6
 have q4 := (hb16.cell (p := ⟨b, o + 4, none⟩) hbl).trans c4
 have r4 := (hb16.cell (p := ⟨kb, ko + 4, none⟩) hbl3).trans k4
 have hz6 := hb16.size
 have hbl6 : b < w6.heap.size := by omega
 have hbl7 : kb < w6.heap.size := by omega
 have HB6 := Lib.hid hb6
 clear hb6 hb16
 go_wp2_with fail
 refine (HPL.out w6 HB6.out).mono ?_
 rintro e w7 ⟨rfl, hb7⟩
 have hb8 := below_then (below_then HB1.out HB6.out) hb7
 clear hb7
 go_wp2_with fail
 go_ret
 exact ⟨rfl, hb8⟩
end Go.Proofs.YthieinfonomeeaaGreatDoor
namespace Go.Proofs.YthieinfonomeeaaGreatDoor
open Go.RowKit Doc Tit Inl Blk
set_option linter.unusedVariables false
attribute [local go_sem ↓] Go.wp_at_zero Go.wp_at_succ
end Go.Proofs.YthieinfonomeeaaGreatDoor
