/-
  The laws CalendarParse and CalendarReads, walked: each answers true, and writes nothing that was there. Condition: the library's table of powers of ten as it is laid.
-/
import Derived.Test.YtdemfbaaimockaaDoorCalParR
import Derived.Test.YtdemfbaaimockaaDoorCalReadT
import Derived.Test.YtdemfbaaimockaaDoorCalLaws2
import Derived.Test.YtdemfbaaimockaaDoorMask
namespace Go.Proofs.YtdemfbaaimockaaDoor
open Go.RowKit
set_option linter.unusedVariables false

set_option maxHeartbeats 1000000 in
theorem law_par (s : ByteArray) (w : World) (ht : Tab w) (hs : s.size ≤ maxLen) :
    Calls Tryd.prog 11 #[.string s] w fun e w' => e = .returned (.bool true) ∧ Below w.heap.size w w' := by
  unfold maxLen at hs
  by_cases hl : 100 < s.size
  · go_enter Tryd.func11, Tryd.ntmps11
    go_wp2_with fail
    refine (known_any _ ht).mono ?_
    rintro e w3 ⟨rfl, hb3⟩
    go_wp2_with fail
    go_ret
    exact ⟨rfl, hb3⟩
  · have h1 := fun w => parse_any s w (by omega)
    have h2 := fun w => parse_ref s w (by omega)
    generalize Cal.parV s = V at *
    generalize Cal.parE s = E at *
    go_enter Tryd.func11, Tryd.ntmps11
    go_wp2_with fail
    refine (h1 _).mono ?_
    rintro e w1 ⟨rfl, hb1⟩
    go_wp2_with fail
    refine (h2 _).mono ?_
    rintro e w2 ⟨rfl, hb2⟩
    have hb := hb1.then_ hb2
    go_wp2_with fail
    refine (known_any _ (ht.on hb)).mono ?_
    rintro e w3 ⟨rfl, hb3⟩
    go_wp2_with fail
    go_ret
    exact ⟨rfl, hb.then_ hb3⟩

set_option maxHeartbeats 2000000 in
theorem reads_walk (n M d : Int) (S T U : ByteArray) (w : World) (ht : Tab w) (hB : bits BinOp.and IntKind.i64 n 67108863 = n % 67108864) (hM : n % 67108864 % 52596000 = M)
    (hT : T.size = 13) (h3 : T.extract 0 3 = ⟨#[89, 109, 32]⟩) (hU : T.extract 3 13 = U)
    (hF1 : ∀ w, Tab w → Calls Tryd.prog 20 #[.string ⟨#[89, 45, 109, 45, 100, 32, 72, 58, 105]⟩, .int .i64 M] w fun e w' => e = .returned (.tuple #[.string S, .int .i64 0]) ∧ Below w.heap.size w w')
    (hP1 : ∀ w, Calls Tryd.prog 28 #[.string S] w fun e w' => e = .returned (.tuple #[.int .i64 M, .int .i64 0]) ∧ Below w.heap.size w w')
    (hF2 : ∀ w, Tab w → Calls Tryd.prog 20 #[.string ⟨#[92, 89, 92, 109, 32, 89, 45, 109, 45, 100]⟩, .int .i64 M] w fun e w' => e = .returned (.tuple #[.string T, .int .i64 0]) ∧ Below w.heap.size w w')
    (hS : ∀ w, Calls Tryd.prog 24 #[.int .i64 3, .int .i64 M] w fun e w' => e = .returned (.tuple #[.int .i64 d, .int .i64 0]) ∧ Below w.heap.size w w')
    (hP2 : ∀ w, Calls Tryd.prog 28 #[.string U] w fun e w' => e = .returned (.tuple #[.int .i64 d, .int .i64 0]) ∧ Below w.heap.size w w') :
    Calls Tryd.prog 12 #[.int .i64 n] w fun e w' => e = .returned (.bool true) ∧ Below w.heap.size w w' := by
  go_enter Tryd.func12, Tryd.ntmps12
  go_wp2_with fail
  refine (hF1 _ ht).mono ?_
  rintro e w1 ⟨rfl, hb1⟩
  have hb := hb1
  go_wp2_with fail
  refine (hP1 _).mono ?_
  rintro e w2 ⟨rfl, hb2⟩
  replace hb := hb.then_ hb2
  go_wp2_with fail
  refine (hF2 _ (ht.on hb)).mono ?_
  rintro e w3 ⟨rfl, hb3⟩
  replace hb := hb.then_ hb3
  go_wp2_with fail
  refine (hS _).mono ?_
  rintro e w4 ⟨rfl, hb4⟩
  replace hb := hb.then_ hb4
  go_wp2_with fail
  refine (hP2 _).mono ?_
  rintro e w5 ⟨rfl, hb5⟩
  replace hb := hb.then_ hb5
  go_wp2_with fail
  refine (known_any _ (ht.on hb)).mono ?_
  rintro e w6 ⟨rfl, hb6⟩
  go_wp2_with fail
  go_ret
  exact ⟨rfl, hb.then_ hb6⟩
theorem law_reads (n : Int) (w : World) (ht : Tab w) (_w0 : -9223372036854775808 ≤ n ∧ n ≤ 9223372036854775807) :
    Calls Tryd.prog 12 #[.int .i64 n] w fun e w' => e = .returned (.bool true) ∧ Below w.heap.size w w' := by
  have hB : bits BinOp.and IntKind.i64 n 67108863 = n % 67108864 := mask_i64 26 (by decide) n _ (by decide)
  obtain ⟨M, hMe⟩ : ∃ M, n % 67108864 % 52596000 = M := ⟨_, rfl⟩
  have m1 : 0 ≤ M := by omega
  have m2 : M ≤ 52595999 := by omega
  have hM : instB M = true := instB_iff.2 ⟨m1, m2⟩
  obtain ⟨Y, N, D, H, I, l1, l2, l3, l4, l5, t1, t2, v1, v2, v3, v4⟩ := Cal.text16 M m1 m2
  obtain ⟨p1, p2⟩ := Cal.parse16 l1 l2 l3 l4 l5
  obtain ⟨p3, p4⟩ := Cal.parse10 l1 l2 l3
  have hF1 := fun w ht => format_yes ⟨#[89, 45, 109, 45, 100, 32, 72, 58, 105]⟩ M w (by decide) hM ht
  have hF2 := fun w ht => format_yes ⟨#[92, 89, 92, 109, 32, 89, 45, 109, 45, 100]⟩ M w (by decide) hM ht
  have hP1 := fun w => parse_any ⟨(Cal.d16 Y N D H I).toArray⟩ w (by show (Cal.d16 Y N D H I).length ≤ 100; simp [Cal.d16, Cal.d10, Cal.dig2])
  have hP2 := fun w => parse_any ⟨(Cal.d10 Y N D).toArray⟩ w (by show (Cal.d10 Y N D).length ≤ 100; simp [Cal.d10, Cal.dig2])
  rw [p1, p2, v1, v2] at hP1
  rw [p3, p4, v3, v4] at hP2
  have hS := fun w => start_yes 3 M w (by omega) (by omega) hM
  have s1 : stV 3 M = M - M % 1440 := by simp [stV]
  rw [s1] at hS
  replace hF1 : ∀ w, Tab w → Calls Tryd.prog 20 #[.string ⟨#[89, 45, 109, 45, 100, 32, 72, 58, 105]⟩, .int .i64 M] w fun e w' => e = .returned (.tuple #[.string ⟨(Cal.d16 Y N D H I).toArray⟩, .int .i64 0]) ∧ Below w.heap.size w w' := by
    rw [← t1]; exact hF1
  replace hF2 : ∀ w, Tab w → Calls Tryd.prog 20 #[.string ⟨#[92, 89, 92, 109, 32, 89, 45, 109, 45, 100]⟩, .int .i64 M] w fun e w' => e = .returned (.tuple #[.string ⟨(89 :: 109 :: 32 :: Cal.d10 Y N D).toArray⟩, .int .i64 0]) ∧ Below w.heap.size w w' := by
    rw [← t2]; exact hF2
  exact reads_walk n M (M - M % 1440) _ _ _ w ht hB hMe (by show (89 :: 109 :: 32 :: Cal.d10 Y N D).length = 13; simp [Cal.d10, Cal.dig2]) (by apply ByteArray.ext; simp [Cal.d10, Cal.dig2]) (by apply ByteArray.ext; simp [Cal.d10, Cal.dig2]) hF1 hP1 hF2 hS hP2
end Go.Proofs.YtdemfbaaimockaaDoor
