/-
  The law InlineNotes: the name and the Kids of a note. Condition: the library's MaxLen holds a number.
-/
import Derived.Test.YtegcacnmcdkfiaaGreatDoorVb
import Derived.Test.YtegcacnmcdkfiaaGreatDoorXa

namespace Go.Proofs.YtegcacnmcdkfiaaGreatDoor
open Go.RowKit Doc Tit Inl
set_option linter.unusedVariables false
attribute [local go_sem ↓] Go.wp_at_zero Go.wp_at_succ

abbrev ntCells (t : ByteArray) (v : Value) : Obj := .cells #[.int .i64 5, .string t, .int .i64 0, .string ⟨#[]⟩, .string ⟨#[]⟩, v] 42
def nt (t : ByteArray) (L : Ins) : Ins := .cons 5 t 0 ⟨#[]⟩ ⟨#[]⟩ L .nil
theorem nt_size (t : ByteArray) (L : Ins) : (nt t L).size = L.size + 1 := by simp [nt, Ins.size]
theorem nt_note (t : ByteArray) (L : Ins) : note t.data.toList L = nt t L := by rw [note, bytes_mk]; rfl
theorem nt_sl (w : World) (t : ByteArray) (v : Value) (L : Ins) (h : insS.sl Any w v L) : insS.sl Any (w.alloc (ntCells t v)) (.slice (some ⟨w.heap.size, 0, none⟩) 1 1) (nt t L) :=
  one_sl (Known.made w 42 #[.int .i64 5, .string t, .int .i64 0, .string ⟨#[]⟩, .string ⟨#[]⟩, v]) (sl_below h (below_new0 _ _))
/-- the kind of the first element -/
theorem kind_cell {w : World} {p : Option Addr} {c : Nat} {s : ByteArray} (h : insS.sl Any w (.slice p 1 c) (tx s)) : ∃ b o, p = some ⟨b, o, none⟩ ∧ w.cell? ⟨b, o, none⟩ = some (.int .i64 1) := by
  obtain ⟨hF, -, -, -⟩ := Shp.rest_start h
  rcases hF with hF | ⟨b, o, ys, rfl, hqb, hbl, hA, hE⟩
  · cases hF
  · obtain ⟨kp, kc, c0, -⟩ := IEnc.head hA hE
    exact ⟨b, o, rfl, by simpa using c0⟩
def nmB : List ByteArray := [⟨#[97]⟩, ⟨#[66, 45, 50]⟩, ⟨#[120, 95, 121]⟩, ⟨(List.replicate 30 122).toArray⟩]
theorem nmB_ok : ∀ j, j < 4 → ∃ t, nmB[j]? = some t ∧ (∀ c ∈ t.data.toList, word c = true) ∧ 1 ≤ t.data.toList.length ∧ t.data.toList.length ≤ 30 := by
  intro j hj
  have : j = 0 ∨ j = 1 ∨ j = 2 ∨ j = 3 := by omega
  rcases this with rfl | rfl | rfl | rfl
  · exact ⟨_, rfl, by decide, by decide, by decide⟩
  · exact ⟨_, rfl, by decide, by decide, by decide⟩
  · exact ⟨_, rfl, by decide, by decide, by decide⟩
  · exact ⟨_, rfl, by decide, by decide, by decide⟩
set_option maxRecDepth 10000 in
set_option maxHeartbeats 2000000 in
theorem law_notes (s : ByteArray) (n : Int) (w : World) (hm : MX w) : Calls Tryz.prog 10 #[.string s, .int .i64 n] w fun e w' => e = .returned (.bool true) ∧ Below w.heap.size w w' := by
  have hz : s.data.toList.length = s.size := by simp
  have HK := Lib.hid (known_then w hm)
  have HM := Lib.hid hm
  by_cases hs : s.size ≤ 300
  case neg =>
    have g0 : decide (300 < (s.size : Int)) = true := by simp; omega
    clear hm
    go_enter Tryz.func10, Tryz.ntmps10
    go_wp2_with fail
    refine (HK.out _ (Below.refl _ _)).mono ?_
    rintro e w6 ⟨rfl, hb6⟩
    go_wp2_with fail
    go_ret
    exact ⟨rfl, hb6⟩
  have g0 : decide (300 < (s.size : Int)) = false := by simp; omega
  have hC1 : Calls Tryz.prog 31 #[.string s, .string ⟨#[60, 114, 101, 102]⟩] w fun e w' => e = .returned (.bool (Lib.contains s.data.toList bRef)) ∧ w' = w := by
    obtain ⟨m, hm⟩ := hm
    exact Tryz.strings_Contains s _ m w (by omega) hm
  have hC2 : Calls Tryz.prog 31 #[.string s, .string ⟨#[60, 47, 114, 101, 102, 62]⟩] w fun e w' => e = .returned (.bool (Lib.contains s.data.toList bEnd)) ∧ w' = w := by
    obtain ⟨m, hm⟩ := hm
    exact Tryz.strings_Contains s _ m w (by omega) hm
  clear hm
  cases hr : Lib.contains s.data.toList bRef with
  | true =>
    rw [hr] at hC1
    have HC1 := Lib.hid hC1
    clear hC1 hC2 hr hz
    go_enter Tryz.func10, Tryz.ntmps10
    go_wp2_with fail
    refine HC1.out.mono ?_
    rintro e w1 ⟨rfl, hw⟩
    rw [hw]
    clear hw
    go_wp2_with fail
    refine (HK.out _ (Below.refl _ _)).mono ?_
    rintro e w6 ⟨rfl, hb6⟩
    go_wp2_with fail
    go_ret
    exact ⟨rfl, hb6⟩
  | false =>
  rw [hr] at hC1
  cases hn : Lib.contains s.data.toList bEnd with
  | true =>
    rw [hn] at hC2
    have HC1 := Lib.hid hC1
    have HC2 := Lib.hid hC2
    clear hC1 hC2 hr hz hn
    go_enter Tryz.func10, Tryz.ntmps10
    go_wp2_with fail
    refine HC1.out.mono ?_
    rintro e w1 ⟨rfl, hw⟩
    rw [hw]
    clear hw
    go_wp2_with fail
    refine HC2.out.mono ?_
    rintro e w1 ⟨rfl, hw⟩
    rw [hw]
    clear hw
    go_wp2_with fail
    refine (HK.out _ (Below.refl _ _)).mono ?_
    rintro e w6 ⟨rfl, hb6⟩
    go_wp2_with fail
    go_ret
    exact ⟨rfl, hb6⟩
  | false =>
  rw [hn] at hC2
  have hi : ∀ e, Lib.contains s.data.toList e = false → Lib.index s.data.toList e = -1 := fun e h => by
    have h1 := Lib.index_ge s.data.toList e
    rw [Lib.contains, decide_eq_false_iff_not] at h
    omega
  have hr := hi _ hr
  have hn := hi _ hn
  obtain ⟨j, hj4, hmk⟩ : ∃ j : Nat, j < 4 ∧ bits BinOp.and IntKind.i64 n 3 = (j : Int) := by
    have h1 := mask_i64 2 (by decide) n 3 (by decide)
    have h2 := Int.emod_nonneg n (show (4 : Int) ≠ 0 by decide)
    have h3 := Int.emod_lt_of_pos n (show (0 : Int) < 4 by decide)
    refine ⟨(n % 4).toNat, by omega, ?_⟩
    rw [h1]
    show n % 4 = _
    omega
  obtain ⟨Z, hZ⟩ : ∃ Z : ByteArray, Z = ⟨(List.replicate 30 122).toArray⟩ := ⟨_, rfl⟩
  have hZs : Z.size = 30 := by rw [hZ]; rfl
  have hZl : Z.data.toList = List.replicate 30 122 := by rw [hZ]
  have hR : ∀ W, Calls Tryz.prog 32 #[.string ⟨#[122]⟩, .int .i64 30] W fun e w' => e = .returned (.string Z) ∧ Below W.heap.size W w' := fun W => by
    have h1 := Tryz.strings_Repeat ⟨#[122]⟩ 30 W (by omega) (by decide)
    have e1 : (⟨#[122]⟩ : ByteArray).data.toList = [122] := rfl
    rw [e1, rep_one, ← hZ] at h1
    exact h1
  obtain ⟨N, hN, hw, hN1, hN2⟩ := nmB_ok j hj4
  have hNl : N.data.toList.length = N.size := by simp
  have hNs : N.size ≤ 30 := by omega
  have hcl : ∀ W : World, (W.alloc (.cells #[.string ⟨#[97]⟩, .string ⟨#[66, 45, 50]⟩, .string ⟨#[120, 95, 121]⟩, .string Z] 9)).cell? ⟨W.heap.size, j, none⟩ = some (.string N) := fun W => by
    rw [(Known.made W 9 #[.string ⟨#[97]⟩, .string ⟨#[66, 45, 50]⟩, .string ⟨#[120, 95, 121]⟩, .string Z]).cell j]
    have : j = 0 ∨ j = 1 ∨ j = 2 ∨ j = 3 := by omega
    rw [hZ]
    rcases this with rfl | rfl | rfl | rfl <;> (injection hN with hN; rw [← hN]; rfl)
  have hP0 := fun W hb => parse_to s (read s.data.toList) (read s.data.toList).len (by omega) rfl rfl W (HM.out.below hb : MX W)
  have hP1 := fun W hb => parse_to (⟨#[60, 114, 101, 102, 62]⟩ ++ s ++ ⟨#[60, 47, 114, 101, 102, 62]⟩) (nt ⟨#[]⟩ (read s.data.toList)) 1 (by simp [ByteArray.size_append]; show 5 + s.size + 6 ≤ _; omega) (by rw [app_data, app_data, ← nt_note]; exact read_ref hn hr) rfl W (HM.out.below hb : MX W)
  have hP2 := fun W hb => parse_to (⟨#[60, 114, 101, 102, 32, 110, 97, 109, 101, 61]⟩ ++ N ++ ⟨#[62]⟩ ++ s ++ ⟨#[60, 47, 114, 101, 102, 62]⟩) (nt N (read s.data.toList)) 1 (by simp [ByteArray.size_append]; show 10 + N.size + 1 + s.size + 6 ≤ _; omega) (by rw [app_data, app_data, app_data, app_data, ← nt_note]; exact read_named hw hN1 hN2 hn hr) rfl W (HM.out.below hb : MX W)
  have hP3 := fun W hb => parse_to (⟨#[60, 114, 101, 102, 32, 110, 97, 109, 101, 61]⟩ ++ N ++ ⟨#[47, 62]⟩) (nt N .nil) 1 (by simp [ByteArray.size_append]; show 10 + N.size + 2 ≤ _; omega) (by rw [app_data, app_data, ← nt_note]; exact read_again hw hN1 hN2) rfl W (HM.out.below hb : MX W)
  obtain ⟨D, hD⟩ : ∃ D, D = ⟨#[60, 114, 101, 102, 32, 110, 97, 109, 101, 61]⟩ ++ N ++ Z ++ ⟨#[47, 62]⟩ := ⟨_, rfl⟩
  have hP4 := fun W hb => parse_to (⟨#[60, 114, 101, 102, 32, 110, 97, 109, 101, 61]⟩ ++ N ++ Z ++ ⟨#[47, 62]⟩) (tx D) 1 (by simp [ByteArray.size_append]; show 10 + N.size + Z.size + 2 ≤ _; omega) (by
    have hww : ∀ c ∈ N.data.toList ++ Z.data.toList, word c = true := by
      intro c hc
      rcases List.mem_append.1 hc with hc | hc
      · exact hw c hc
      · rw [hZl] at hc
        rw [List.eq_of_mem_replicate hc]
        decide
    have hrl := read_long hww (by rw [List.length_append, hZl, List.length_replicate]; omega)
    rw [← tx_txt, hD, app_data, app_data, app_data]
    rw [← List.append_assoc] at hrl
    exact hrl) rfl W (HM.out.below hb : MX W)
  have hS1 := same_of (nt ⟨#[]⟩ (read s.data.toList)) (by rw [nt_size]; have := read_size s.data.toList; omega)
  have hS2 := same_of (nt N (read s.data.toList)) (by rw [nt_size]; have := read_size s.data.toList; omega)
  have hS3 := same_of (nt N .nil) (by rw [nt_size]; decide)
  obtain ⟨R, hRd⟩ : ∃ R, read s.data.toList = R := ⟨_, rfl⟩
  rw [hRd] at hP0 hP1 hP2 hS1 hS2
  obtain ⟨l, hl⟩ : ∃ l, R.len = l := ⟨_, rfl⟩
  rw [hl] at hP0
  have hjb : (j : Int) < 4 := by omega
  have HC1 := Lib.hid hC1
  have HC2 := Lib.hid hC2
  have HR := Lib.hid hR
  have HP0 := Lib.hid hP0
  have HP1 := Lib.hid hP1
  have HP2 := Lib.hid hP2
  have HP3 := Lib.hid hP3
  have HP4 := Lib.hid hP4
  have HS1 := Lib.hid hS1
  have HS2 := Lib.hid hS2
  have HS3 := Lib.hid hS3
  have HCl := Lib.hid hcl
  clear hC1 hC2 hR hP0 hP1 hP2 hP3 hP4 hS1 hS2 hS3 hcl hRd hl hD hN hZl hZ hw hN1 hN2 hNl hr hn hi hz
  go_enter Tryz.func10, Tryz.ntmps10
  go_wp2_with fail
  refine HC1.out.mono ?_
  rintro e w1 ⟨rfl, hw⟩
  rw [hw]
  clear hw
  go_wp2_with fail
  refine HC2.out.mono ?_
  rintro e w1 ⟨rfl, hw⟩
  rw [hw]
  clear hw
  go_wp2_with fail
  refine (HR.out _).mono ?_
  rintro e w1 ⟨rfl, hb1⟩
  have hcl := HCl.out w1
  have HB1 := Lib.hid (below_then hb1 (below_new0 w1 (.cells #[.string ⟨#[97]⟩, .string ⟨#[66, 45, 50]⟩, .string ⟨#[120, 95, 121]⟩, .string Z] 9)))
  clear hb1
  go_wp2_with fail
  refine (HP0.out _ HB1.out).mono ?_
  rintro e w2 ⟨p2, c2, rfl, hs2, hb2⟩
  have HB2 := Lib.hid (below_then HB1.out hb2)
  have X2_2 := Lib.hid hs2
  clear hs2 hb2 HB1 
  go_wp2_with fail
  refine (HP1.out _ HB2.out).mono ?_
  rintro e w3 ⟨p3, c3, rfl, hs3, hb3⟩
  have HB3 := Lib.hid (below_then HB2.out hb3)
  have X2_3 := Lib.hid (sl_below X2_2.out hb3)
  have X3_3 := Lib.hid hs3
  clear hs3 hb3 HB2 X2_2
  go_wp2_with fail
  refine (HP2.out _ HB3.out).mono ?_
  rintro e w4 ⟨p4, c4, rfl, hs4, hb4⟩
  have HB4 := Lib.hid (below_then HB3.out hb4)
  have X2_4 := Lib.hid (sl_below X2_3.out hb4)
  have X3_4 := Lib.hid (sl_below X3_3.out hb4)
  have X4_4 := Lib.hid hs4
  clear hs4 hb4 HB3 X2_3 X3_3
  go_wp2_with fail
  refine (HP3.out _ HB4.out).mono ?_
  rintro e w5 ⟨p5, c5, rfl, hs5, hb5⟩
  have HB5 := Lib.hid (below_then HB4.out hb5)
  have X2_5 := Lib.hid (sl_below X2_4.out hb5)
  have X3_5 := Lib.hid (sl_below X3_4.out hb5)
  have X4_5 := Lib.hid (sl_below X4_4.out hb5)
  have X5_5 := Lib.hid hs5
  clear hs5 hb5 HB4 X2_4 X3_4 X4_4
  go_wp2_with fail
  refine (HR.out _).mono ?_
  rintro e w6 ⟨rfl, hb6⟩
  have HB6 := Lib.hid (below_then HB5.out hb6)
  have X2_6 := Lib.hid (sl_below X2_5.out hb6)
  have X3_6 := Lib.hid (sl_below X3_5.out hb6)
  have X4_6 := Lib.hid (sl_below X4_5.out hb6)
  have X5_6 := Lib.hid (sl_below X5_5.out hb6)
  clear hb6 HB5 X2_5 X3_5 X4_5 X5_5
  go_wp2_with fail
  refine (HP4.out _ HB6.out).mono ?_
  rintro e w7 ⟨p7, c7, rfl, hs7, hb7⟩
  have HB7 := Lib.hid (below_then HB6.out hb7)
  have X2_7 := Lib.hid (sl_below X2_6.out hb7)
  have X3_7 := Lib.hid (sl_below X3_6.out hb7)
  have X4_7 := Lib.hid (sl_below X4_6.out hb7)
  have X5_7 := Lib.hid (sl_below X5_6.out hb7)
  have X7_7 := Lib.hid hs7
  clear hs7 hb7 HB6 X2_6 X3_6 X4_6 X5_6
  have hq8 := HS1.out p3 c3 (some ⟨w7.heap.size, 0, none⟩) 1 _ (sl_below X3_7.out (below_new0 w7 (ntCells ⟨#[]⟩ (.slice p2 l c2)))) (nt_sl w7 ⟨#[]⟩ (.slice p2 l c2) _ X2_7.out)
  have HQ8 := Lib.hid hq8
  clear hq8
  go_wp2_with fail
  refine HQ8.out.mono ?_
  rintro e w8 ⟨rfl, hb8⟩
  have hb8 := below_then (below_new0 w7 (ntCells ⟨#[]⟩ (.slice p2 l c2))) hb8
  have HB8 := Lib.hid (below_then HB7.out hb8)
  have X2_8 := Lib.hid (sl_below X2_7.out hb8)
  have X3_8 := Lib.hid (sl_below X3_7.out hb8)
  have X4_8 := Lib.hid (sl_below X4_7.out hb8)
  have X5_8 := Lib.hid (sl_below X5_7.out hb8)
  have X7_8 := Lib.hid (sl_below X7_7.out hb8)
  clear hb8 HB7 HQ8 X2_7 X3_7 X4_7 X5_7 X7_7
  have hq9 := HS2.out p4 c4 (some ⟨w8.heap.size, 0, none⟩) 1 _ (sl_below X4_8.out (below_new0 w8 (ntCells N (.slice p2 l c2)))) (nt_sl w8 N (.slice p2 l c2) _ X2_8.out)
  have HQ9 := Lib.hid hq9
  clear hq9
  go_wp2_with fail
  refine HQ9.out.mono ?_
  rintro e w9 ⟨rfl, hb9⟩
  have hb9 := below_then (below_new0 w8 (ntCells N (.slice p2 l c2))) hb9
  have HB9 := Lib.hid (below_then HB8.out hb9)
  have X2_9 := Lib.hid (sl_below X2_8.out hb9)
  have X3_9 := Lib.hid (sl_below X3_8.out hb9)
  have X4_9 := Lib.hid (sl_below X4_8.out hb9)
  have X5_9 := Lib.hid (sl_below X5_8.out hb9)
  have X7_9 := Lib.hid (sl_below X7_8.out hb9)
  clear hb9 HB8 HQ9 X2_8 X3_8 X4_8 X5_8 X7_8
  have hq10 := HS3.out p5 c5 (some ⟨w9.heap.size, 0, none⟩) 1 _ (sl_below X5_9.out (below_new0 w9 (ntCells N (.slice none 0 0)))) (nt_sl w9 N (.slice none 0 0) _ Sl.empty)
  have HQ10 := Lib.hid hq10
  clear hq10
  go_wp2_with fail
  refine HQ10.out.mono ?_
  rintro e w10 ⟨rfl, hb10⟩
  have hb10 := below_then (below_new0 w9 (ntCells N (.slice none 0 0))) hb10
  have HB10 := Lib.hid (below_then HB9.out hb10)
  have X2_10 := Lib.hid (sl_below X2_9.out hb10)
  have X3_10 := Lib.hid (sl_below X3_9.out hb10)
  have X4_10 := Lib.hid (sl_below X4_9.out hb10)
  have X5_10 := Lib.hid (sl_below X5_9.out hb10)
  have X7_10 := Lib.hid (sl_below X7_9.out hb10)
  clear hb10 HB9 HQ10 X2_9 X3_9 X4_9 X5_9 X7_9
  obtain ⟨b, o, rfl, hk⟩ := kind_cell X7_10.out
  go_wp2_with fail
  refine (HK.out _ HB10.out).mono ?_
  rintro e w11 ⟨rfl, hb11⟩
  go_wp2_with fail
  go_ret
  exact ⟨rfl, hb11⟩
end Go.Proofs.YtegcacnmcdkfiaaGreatDoor
