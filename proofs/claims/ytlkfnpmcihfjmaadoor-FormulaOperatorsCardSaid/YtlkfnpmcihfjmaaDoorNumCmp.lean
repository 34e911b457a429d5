/-
  Compare, by the program and by the reference. Conditions: those typed in each theorem.
-/
import Derived.Test.YtlkfnpmcihfjmaaDoorNumOps
namespace Go.Proofs.YtlkfnpmcihfjmaaDoor
open Go.RowKit

/-- how two products stand -/
def cmpV (x y : Int) : Int := if x < y then -1 else if y < x then 1 else 0
def cmpN (a b c d : Int) : Int := if Num.val a b = true ∧ Num.val c d = true then cmpV (a * d) (c * b) else 0

/-- the blocks of two numbers -/
def W22 (a b c d : Int) (w : World) : World := (w.alloc (.cells #[.int .i64 a, .int .i64 b] 23)).alloc (.cells #[.int .i64 c, .int .i64 d] 23)
theorem W22_below (a b c d : Int) (w : World) : Below w.heap.size w (W22 a b c d w) := (below_new0 w _).then_ (below_new0 _ _)
theorem W22_a (a b c d : Int) (w : World) : Known (W22 a b c d w) w.heap.size 23 #[.int .i64 a, .int .i64 b] := (Known.made w _ _).alloc _
theorem W22_b (a b c d : Int) (w : World) : Known (W22 a b c d w) (w.heap.size + 1) 23 #[.int .i64 c, .int .i64 d] := by
  have := Known.made (w.alloc (.cells #[.int .i64 a, .int .i64 b] 23)) 23 #[.int .i64 c, .int .i64 d]
  rw [show (w.alloc (.cells #[.int .i64 a, .int .i64 b] 23)).heap.size = w.heap.size + 1 by simp] at this
  exact this

set_option maxHeartbeats 2000000 in
theorem compareP (a b c d : Int) (w : World) (i1 : I64 a) (i2 : I64 b) (i3 : I64 c) (i4 : I64 d) :
    Calls Tryd.prog 65 #[.agg #[.int .i64 a, .int .i64 b], .agg #[.int .i64 c, .int .i64 d]] w fun e w' => e = .returned (.int .i64 (cmpN a b c d)) ∧ Below w.heap.size w w' := by
  cases v1 : Num.val a b
  · rw [show cmpN a b c d = 0 by simp [cmpN, v1]]
    go_enter Tryd.func65, Tryd.ntmps65
    go_wp2_with fail
    refine (valid_any a b _ i1 i2).mono ?_
    rintro e w1 ⟨rfl, hb1⟩
    rw [v1]
    change Below (W22 a b c d w).heap.size (W22 a b c d w) w1 at hb1
    have hb := (W22_below a b c d w).then_ hb1
    have KA := (W22_a a b c d w).on hb1
    have KB := (W22_b a b c d w).on hb1
    obtain ⟨a10, a11⟩ := KA.two
    obtain ⟨b10, b11⟩ := KB.two
    go_wp2
    go_ret
    exact ⟨rfl, hb⟩
  cases v2 : Num.val c d
  · rw [show cmpN a b c d = 0 by simp [cmpN, v2]]
    go_enter Tryd.func65, Tryd.ntmps65
    go_wp2_with fail
    refine (valid_any a b _ i1 i2).mono ?_
    rintro e w1 ⟨rfl, hb1⟩
    rw [v1]
    change Below (W22 a b c d w).heap.size (W22 a b c d w) w1 at hb1
    have hb := (W22_below a b c d w).then_ hb1
    have KA := (W22_a a b c d w).on hb1
    have KB := (W22_b a b c d w).on hb1
    obtain ⟨a10, a11⟩ := KA.two
    obtain ⟨b10, b11⟩ := KB.two
    go_wp2_with fail
    refine (valid_any c d _ i3 i4).mono ?_
    rintro e w2 ⟨rfl, hb2⟩
    rw [v2]
    replace hb := hb.then_ hb2
    replace KA := KA.on hb2
    replace KB := KB.on hb2
    obtain ⟨a20, a21⟩ := KA.two
    obtain ⟨b20, b21⟩ := KB.two
    go_wp2
    go_ret
    exact ⟨rfl, hb⟩
  obtain ⟨k1, k2, k3, k4, k5⟩ := Num.val_iff.1 v1
  obtain ⟨l1, l2, l3, l4, l5⟩ := Num.val_iff.1 v2
  obtain ⟨m1, m2⟩ := mul_bd k1 k2 (show -1000000000 ≤ d by omega) l4
  obtain ⟨m3, m4⟩ := mul_bd l1 l2 (show -1000000000 ≤ b by omega) k4
  rw [show cmpN a b c d = cmpV (a * d) (c * b) by simp [cmpN, v1, v2]]
  unfold cmpV
  by_cases h1 : a * d < c * b
  · rw [if_pos h1]
    go_enter Tryd.func65, Tryd.ntmps65
    go_wp2_with fail
    refine (valid_any a b _ i1 i2).mono ?_
    rintro e w1 ⟨rfl, hb1⟩
    rw [v1]
    change Below (W22 a b c d w).heap.size (W22 a b c d w) w1 at hb1
    have hb := (W22_below a b c d w).then_ hb1
    have KA := (W22_a a b c d w).on hb1
    have KB := (W22_b a b c d w).on hb1
    obtain ⟨a10, a11⟩ := KA.two
    obtain ⟨b10, b11⟩ := KB.two
    go_wp2_with fail
    refine (valid_any c d _ i3 i4).mono ?_
    rintro e w2 ⟨rfl, hb2⟩
    rw [v2]
    replace hb := hb.then_ hb2
    replace KA := KA.on hb2
    replace KB := KB.on hb2
    obtain ⟨a20, a21⟩ := KA.two
    obtain ⟨b20, b21⟩ := KB.two
    go_wp2
    go_region
    all_goals (try go_wp2)
    all_goals (go_ret; exact ⟨rfl, hb.drew⟩)
  by_cases h2 : c * b < a * d
  · rw [if_neg h1, if_pos h2]
    go_enter Tryd.func65, Tryd.ntmps65
    go_wp2_with fail
    refine (valid_any a b _ i1 i2).mono ?_
    rintro e w1 ⟨rfl, hb1⟩
    rw [v1]
    change Below (W22 a b c d w).heap.size (W22 a b c d w) w1 at hb1
    have hb := (W22_below a b c d w).then_ hb1
    have KA := (W22_a a b c d w).on hb1
    have KB := (W22_b a b c d w).on hb1
    obtain ⟨a10, a11⟩ := KA.two
    obtain ⟨b10, b11⟩ := KB.two
    go_wp2_with fail
    refine (valid_any c d _ i3 i4).mono ?_
    rintro e w2 ⟨rfl, hb2⟩
    rw [v2]
    replace hb := hb.then_ hb2
    replace KA := KA.on hb2
    replace KB := KB.on hb2
    obtain ⟨a20, a21⟩ := KA.two
    obtain ⟨b20, b21⟩ := KB.two
    go_wp2
    go_region
    all_goals (try go_wp2)
    all_goals (go_ret; exact ⟨rfl, hb.drew⟩)
  · rw [if_neg h1, if_neg h2]
    go_enter Tryd.func65, Tryd.ntmps65
    go_wp2_with fail
    refine (valid_any a b _ i1 i2).mono ?_
    rintro e w1 ⟨rfl, hb1⟩
    rw [v1]
    change Below (W22 a b c d w).heap.size (W22 a b c d w) w1 at hb1
    have hb := (W22_below a b c d w).then_ hb1
    have KA := (W22_a a b c d w).on hb1
    have KB := (W22_b a b c d w).on hb1
    obtain ⟨a10, a11⟩ := KA.two
    obtain ⟨b10, b11⟩ := KB.two
    go_wp2_with fail
    refine (valid_any c d _ i3 i4).mono ?_
    rintro e w2 ⟨rfl, hb2⟩
    rw [v2]
    replace hb := hb.then_ hb2
    replace KA := KA.on hb2
    replace KB := KB.on hb2
    obtain ⟨a20, a21⟩ := KA.two
    obtain ⟨b20, b21⟩ := KB.two
    go_wp2
    go_region
    all_goals (try go_wp2)
    all_goals (go_ret; exact ⟨rfl, hb.drew⟩)

set_option maxHeartbeats 2000000 in
theorem compareR (a b c d : Int) (w : World) (i1 : I64 a) (i2 : I64 b) (i3 : I64 c) (i4 : I64 d) :
    Calls Tryd.prog 11 #[.agg #[.int .i64 a, .int .i64 b], .agg #[.int .i64 c, .int .i64 d]] w fun e w' => e = .returned (.int .i64 (cmpN a b c d)) ∧ Below w.heap.size w w' := by
  cases v1 : Num.val a b
  · rw [show cmpN a b c d = 0 by simp [cmpN, v1]]
    go_enter Tryd.func11, Tryd.ntmps11
    go_wp2_with fail
    refine (validRef_any a b _ i1 i2).mono ?_
    rintro e w1 ⟨rfl, hb1⟩
    rw [v1]
    change Below (W22 a b c d w).heap.size (W22 a b c d w) w1 at hb1
    have hb := (W22_below a b c d w).then_ hb1
    have KA := (W22_a a b c d w).on hb1
    have KB := (W22_b a b c d w).on hb1
    obtain ⟨a10, a11⟩ := KA.two
    obtain ⟨b10, b11⟩ := KB.two
    go_wp2
    go_ret
    exact ⟨rfl, hb⟩
  cases v2 : Num.val c d
  · rw [show cmpN a b c d = 0 by simp [cmpN, v2]]
    go_enter Tryd.func11, Tryd.ntmps11
    go_wp2_with fail
    refine (validRef_any a b _ i1 i2).mono ?_
    rintro e w1 ⟨rfl, hb1⟩
    rw [v1]
    change Below (W22 a b c d w).heap.size (W22 a b c d w) w1 at hb1
    have hb := (W22_below a b c d w).then_ hb1
    have KA := (W22_a a b c d w).on hb1
    have KB := (W22_b a b c d w).on hb1
    obtain ⟨a10, a11⟩ := KA.two
    obtain ⟨b10, b11⟩ := KB.two
    go_wp2_with fail
    refine (validRef_any c d _ i3 i4).mono ?_
    rintro e w2 ⟨rfl, hb2⟩
    rw [v2]
    replace hb := hb.then_ hb2
    replace KA := KA.on hb2
    replace KB := KB.on hb2
    obtain ⟨a20, a21⟩ := KA.two
    obtain ⟨b20, b21⟩ := KB.two
    go_wp2
    go_ret
    exact ⟨rfl, hb⟩
  obtain ⟨k1, k2, k3, k4, k5⟩ := Num.val_iff.1 v1
  obtain ⟨l1, l2, l3, l4, l5⟩ := Num.val_iff.1 v2
  obtain ⟨m1, m2⟩ := mul_bd k1 k2 (show -1000000000 ≤ d by omega) l4
  obtain ⟨m3, m4⟩ := mul_bd l1 l2 (show -1000000000 ≤ b by omega) k4
  rw [show cmpN a b c d = cmpV (a * d) (c * b) by simp [cmpN, v1, v2]]
  unfold cmpV
  by_cases h1 : a * d < c * b
  · rw [if_pos h1]
    go_enter Tryd.func11, Tryd.ntmps11
    go_wp2_with fail
    refine (validRef_any a b _ i1 i2).mono ?_
    rintro e w1 ⟨rfl, hb1⟩
    rw [v1]
    change Below (W22 a b c d w).heap.size (W22 a b c d w) w1 at hb1
    have hb := (W22_below a b c d w).then_ hb1
    have KA := (W22_a a b c d w).on hb1
    have KB := (W22_b a b c d w).on hb1
    obtain ⟨a10, a11⟩ := KA.two
    obtain ⟨b10, b11⟩ := KB.two
    go_wp2_with fail
    refine (validRef_any c d _ i3 i4).mono ?_
    rintro e w2 ⟨rfl, hb2⟩
    rw [v2]
    replace hb := hb.then_ hb2
    replace KA := KA.on hb2
    replace KB := KB.on hb2
    obtain ⟨a20, a21⟩ := KA.two
    obtain ⟨b20, b21⟩ := KB.two
    go_wp2
    go_region
    all_goals (try go_wp2)
    all_goals (go_ret; exact ⟨rfl, hb.drew⟩)
  by_cases h2 : c * b < a * d
  · rw [if_neg h1, if_pos h2]
    go_enter Tryd.func11, Tryd.ntmps11
    go_wp2_with fail
    refine (validRef_any a b _ i1 i2).mono ?_
    rintro e w1 ⟨rfl, hb1⟩
    rw [v1]
    change Below (W22 a b c d w).heap.size (W22 a b c d w) w1 at hb1
    have hb := (W22_below a b c d w).then_ hb1
    have KA := (W22_a a b c d w).on hb1
    have KB := (W22_b a b c d w).on hb1
    obtain ⟨a10, a11⟩ := KA.two
    obtain ⟨b10, b11⟩ := KB.two
    go_wp2_with fail
    refine (validRef_any c d _ i3 i4).mono ?_
    rintro e w2 ⟨rfl, hb2⟩
    rw [v2]
    replace hb := hb.then_ hb2
    replace KA := KA.on hb2
    replace KB := KB.on hb2
    obtain ⟨a20, a21⟩ := KA.two
    obtain ⟨b20, b21⟩ := KB.two
    go_wp2
    go_region
    all_goals (try go_wp2)
    all_goals (go_ret; exact ⟨rfl, hb.drew⟩)
  · rw [if_neg h1, if_neg h2]
    go_enter Tryd.func11, Tryd.ntmps11
    go_wp2_with fail
    refine (validRef_any a b _ i1 i2).mono ?_
    rintro e w1 ⟨rfl, hb1⟩
    rw [v1]
    change Below (W22 a b c d w).heap.size (W22 a b c d w) w1 at hb1
    have hb := (W22_below a b c d w).then_ hb1
    have KA := (W22_a a b c d w).on hb1
    have KB := (W22_b a b c d w).on hb1
    obtain ⟨a10, a11⟩ := KA.two
    obtain ⟨b10, b11⟩ := KB.two
    go_wp2_with fail
    refine (validRef_any c d _ i3 i4).mono ?_
    rintro e w2 ⟨rfl, hb2⟩
    rw [v2]
    replace hb := hb.then_ hb2
    replace KA := KA.on hb2
    replace KB := KB.on hb2
    obtain ⟨a20, a21⟩ := KA.two
    obtain ⟨b20, b21⟩ := KB.two
    go_wp2
    go_region
    all_goals (try go_wp2)
    all_goals (go_ret; exact ⟨rfl, hb.drew⟩)

end Go.Proofs.YtlkfnpmcihfjmaaDoor
