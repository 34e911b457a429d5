/-
  The law NumberMake, walked. Conditions: those typed in each theorem.
-/
import Derived.Test.YtbddbhamkclndaaDoorNumKnown3
namespace Go.Proofs.YtbddbhamkclndaaDoor
open Go.RowKit

theorem mk_val (n d : Int) (h : mkE n d = 0) : Num.val (mkN n d) (mkD n d) = true := by
  unfold mkE at h
  cases hb : mkB n d
  · rw [hb] at h; simp at h; split at h <;> omega
  · rw [hb, if_pos rfl] at h
    have hd : d ≠ 0 := by rintro rfl; simp [mkB] at hb
    unfold Num.redE at h
    cases hr : Num.rB n d
    · rw [hr] at h; simp at h
    · have := Num.red_val hd hr
      simp only [mkN, mkD, hb, if_true, Num.redN, Num.redD, hr]
      exact this

set_option maxHeartbeats 2000000 in
theorem law_make (n d a b : Int) (w : World) (i1 : I64 a) (i2 : I64 b) :
    Calls Tryd.prog 3 #[.int .i64 n, .int .i64 d, .agg #[.int .i64 a, .int .i64 b]] w fun e w' => e = .returned (.bool true) ∧ Below w.heap.size w w' := by
  have hv := mk_val n d
  have hm := make_any n d
  have hm' := makeRef_any n d
  generalize mkN n d = N at *
  generalize mkD n d = D at *
  generalize mkE n d = E at *
  have V1 : ∀ w, Calls Tryd.prog 16 #[.agg #[.int .i64 a, .int .i64 b]] w fun e w' => e = .returned (.bool (Num.val a b)) ∧ Below w.heap.size w w' := fun w => valid_any a b w i1 i2
  have V2 : ∀ w, Calls Tryd.prog 17 #[.agg #[.int .i64 a, .int .i64 b]] w fun e w' => e = .returned (.bool (Num.val a b)) ∧ Below w.heap.size w w' := fun w => validRef_any a b w i1 i2
  generalize Num.val a b = vb at *
  by_cases hE : E = 0
  · subst hE
    have V3 : ∀ w, Calls Tryd.prog 16 #[.agg #[.int .i64 N, .int .i64 D]] w fun e w' => e = .returned (.bool true) ∧ Below w.heap.size w w' := by
      intro w
      obtain ⟨k1, k2, k3, k4, k5⟩ := Num.val_iff.1 (hv rfl)
      have := valid_any N D w (by omega) (by omega)
      rw [hv rfl] at this
      exact this
    clear hv i1 i2
    go_enter Tryd.func3, Tryd.ntmps3
    go_wp2_with fail
    refine (hm _).mono ?_
    rintro e w1 ⟨rfl, hb1⟩
    go_wp2_with fail
    refine (hm' _).mono ?_
    rintro e w2 ⟨rfl, hb2⟩
    obtain ⟨f0, f1⟩ := ((((Known.made w 23 #[.int .i64 a, .int .i64 b]).on hb1).alloc (.cells #[.int .i64 N, .int .i64 D] 23)).on hb2).alloc (.cells #[.int .i64 N, .int .i64 D] 23) |>.two
    obtain ⟨g0, g1⟩ := ((Known.made w1 23 #[.int .i64 N, .int .i64 D]).on hb2).alloc (.cells #[.int .i64 N, .int .i64 D] 23) |>.two
    obtain ⟨h0, h1⟩ := (Known.made w2 23 #[.int .i64 N, .int .i64 D]).two
    have l1 := (((((Known.made w 23 #[.int .i64 a, .int .i64 b]).on hb1).alloc (.cells #[.int .i64 N, .int .i64 D] 23)).on hb2).alloc (.cells #[.int .i64 N, .int .i64 D] 23)).lt
    have l2 := (((Known.made w1 23 #[.int .i64 N, .int .i64 D]).on hb2).alloc (.cells #[.int .i64 N, .int .i64 D] 23)).lt
    have l3 := (Known.made w2 23 #[.int .i64 N, .int .i64 D]).lt
    have hb := (((below_new0 w (.cells #[.int .i64 a, .int .i64 b] 23)).then_ hb1).then_ ((below_new0 w1 (.cells #[.int .i64 N, .int .i64 D] 23)).then_ hb2)).then_ (below_new0 w2 (.cells #[.int .i64 N, .int .i64 D] 23))
    clear hm hm'
    go_wp2_with fail
    generalize w2.alloc (.cells #[.int .i64 N, .int .i64 D] 23) = w3 at *
    refine wp_region_gr (by kernel_rfl) (by kernel_rfl) ?_
    repeat (go_big_quiet_step (first | (go_at_call 16; with_reducible exact gr_call (V1 _)) | (go_at_call 16; with_reducible exact gr_call (V3 _)) | (go_at_call 17; with_reducible exact gr_call (V2 _)) | (go_at_call 18; exact gr_call (known_any _))))
    refine wpQuiet_nil ?_
    intro _ hw'; obtain ⟨w5, hw''⟩ := hw'; subst hw''
    have hB := gr_below w3 w5
    generalize gr w3 w5 = w4 at *
    go_wp2
    go_ret
    exact ⟨rfl, hb.then_ hB⟩
  · have hE' : (E != 0) = true := by simpa using hE
    clear hv i1 i2
    go_enter Tryd.func3, Tryd.ntmps3
    go_wp2_with fail
    refine (hm _).mono ?_
    rintro e w1 ⟨rfl, hb1⟩
    go_wp2_with fail
    refine (hm' _).mono ?_
    rintro e w2 ⟨rfl, hb2⟩
    obtain ⟨f0, f1⟩ := ((((Known.made w 23 #[.int .i64 a, .int .i64 b]).on hb1).alloc (.cells #[.int .i64 N, .int .i64 D] 23)).on hb2).alloc (.cells #[.int .i64 N, .int .i64 D] 23) |>.two
    obtain ⟨g0, g1⟩ := ((Known.made w1 23 #[.int .i64 N, .int .i64 D]).on hb2).alloc (.cells #[.int .i64 N, .int .i64 D] 23) |>.two
    obtain ⟨h0, h1⟩ := (Known.made w2 23 #[.int .i64 N, .int .i64 D]).two
    have l1 := (((((Known.made w 23 #[.int .i64 a, .int .i64 b]).on hb1).alloc (.cells #[.int .i64 N, .int .i64 D] 23)).on hb2).alloc (.cells #[.int .i64 N, .int .i64 D] 23)).lt
    have l2 := (((Known.made w1 23 #[.int .i64 N, .int .i64 D]).on hb2).alloc (.cells #[.int .i64 N, .int .i64 D] 23)).lt
    have l3 := (Known.made w2 23 #[.int .i64 N, .int .i64 D]).lt
    have hb := (((below_new0 w (.cells #[.int .i64 a, .int .i64 b] 23)).then_ hb1).then_ ((below_new0 w1 (.cells #[.int .i64 N, .int .i64 D] 23)).then_ hb2)).then_ (below_new0 w2 (.cells #[.int .i64 N, .int .i64 D] 23))
    clear hm hm'
    go_wp2_with fail
    generalize w2.alloc (.cells #[.int .i64 N, .int .i64 D] 23) = w3 at *
    refine wp_region_gr (by kernel_rfl) (by kernel_rfl) ?_
    repeat (go_big_quiet_step (first | (go_at_call 16; with_reducible exact gr_call (V1 _)) | (go_at_call 17; with_reducible exact gr_call (V2 _)) | (go_at_call 18; exact gr_call (known_any _))))
    refine wpQuiet_nil ?_
    intro _ hw'; obtain ⟨w5, hw''⟩ := hw'; subst hw''
    have hB := gr_below w3 w5
    generalize gr w3 w5 = w4 at *
    go_wp2
    go_ret
    exact ⟨rfl, hb.then_ hB⟩
end Go.Proofs.YtbddbhamkclndaaDoor
